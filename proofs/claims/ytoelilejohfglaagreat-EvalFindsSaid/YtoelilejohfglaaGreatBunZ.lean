/- Joined texts: WldB WldC MatA MatB MatC MatD MatE. -/
import Derived.Test.YtoelilejohfglaaGreatBunT
import Derived.Test.YtoelilejohfglaaGreatBunW
import Derived.Test.YtoelilejohfglaaGreatBunQ
import Derived.Test.YtoelilejohfglaaGreatBunP
import Derived.Lib.ConvBytes
import Derived.Test.YtoelilejohfglaaGreatBunS
import Derived.Test.YtoelilejohfglaaGreatBunY
import Derived.Test.YtoelilejohfglaaGreatBunX
import Derived.Test.YtoelilejohfglaaGreatBunU
import Derived.Test.YtoelilejohfglaaGreatBunV
import Derived.Laws.EntriesVeiled
import Derived.Deep.RegionHeld3
set_option maxHeartbeats 16000000
set_option maxRecDepth 100000
namespace Go.Proofs.YtoelilejohfglaaGreat
open Go.RowKit
set_option linter.unusedVariables false
set_option linter.unusedSimpArgs false
theorem valC_yes {x : Cls} (h : sizeC x = 1) : valC x = bytC x + 1 := by
 obtain ⟨b, hb, rfl⟩ := sizeC_one h
 unfold valC bytC
 rw [singleC_two b hb]
theorem valC_no {x : Cls} (h : ¬ sizeC x = 1) : valC x = 0 := by unfold valC; rw [singleC_not h]
theorem wildValue_any (x : Cls) (w : World) : Calls Tryz.prog 166 #[litC x] w fun e w' => e = .returned (.int .u64 (valC x)) ∧ Chg Nothing w w' := by
 have hX := Blk.new w (cellsC x) 84
 obtain ⟨r0, r1, r2, r3, -, -, -, -, hlt1⟩ := CBox.at_ (show CBox _ _ x from hX)
 have hc0 := hid ((Chg.refl Nothing w).alloc (.cells (cellsC x) 84))
 unfold cellsC at hc0 r0 r1 r2 r3 hlt1
 clear hX
 by_cases h1 : sizeC x = 1
 ·have hSi := hid (fun w => (show Calls Tryz.prog 136 #[litC x] w fun e w' => e = .returned (.tuple #[.int .u8 (bytC x), .bool true]) ∧ Chg Nothing w w' from singleV_yes h1 ▸ classSingle_any x w))
  have hb := bytC_bound x
  rw [valC_yes h1]
  generalize bytC x = b at hSi hb ⊢
  have hw1 : IntKind.u64.wrap b = b := by rw [IntKind.wrap_u64]; omega
  have hw2 : IntKind.u64.wrap (b + 1) = b + 1 := by rw [IntKind.wrap_u64]; omega
  clear h1
  go_enter Tryz.func166, Tryz.ntmps166
  go_wp2_with fail
  refine (hSi.out _).mono ?_
  rintro e w4 ⟨rfl, hc4⟩
  have hC4 := hid (hc0.out.trans hc4)
  clear r0 r1 r2 r3 hc4
  go_wp2
  go_ret
  exact ⟨rfl, hC4.out⟩
 ·have hSi := hid (fun w => (show Calls Tryz.prog 136 #[litC x] w fun e w' => e = .returned (.tuple #[.int .u8 0, .bool false]) ∧ Chg Nothing w w' from singleV_no h1 ▸ classSingle_any x w))
  rw [valC_no h1]
  clear h1
  go_enter Tryz.func166, Tryz.ntmps166
  go_wp2_with fail
  refine (hSi.out _).mono ?_
  rintro e w4 ⟨rfl, hc4⟩
  have hC4 := hid (hc0.out.trans hc4)
  clear r0 r1 r2 r3 hc4
  go_wp2
  go_ret
  exact ⟨rfl, hC4.out⟩
theorem wildByte_any (b : Int) (h : 0 ≤ b ∧ b ≤ 255) (w : World) : Calls Tryz.prog 168 #[.int .u8 b] w fun e w' => e = .returned (.int .u64 (b + 1)) ∧ Chg Nothing w w' := by
 have hw1 : IntKind.u64.wrap b = b := by rw [IntKind.wrap_u64]; omega
 have hw2 : IntKind.u64.wrap (b + 1) = b + 1 := by rw [IntKind.wrap_u64]; omega
 go_enter Tryz.func168, Tryz.ntmps168
 go_wp2
 go_ret
 exact ⟨rfl, Chg.refl _ _⟩
theorem mul_boundW {a b x y : Int} (h1 : 0 ≤ a) (h2 : a ≤ x) (h3 : 0 ≤ b) (h4 : b ≤ y) : 0 ≤ a * b ∧ a * b ≤ x * y := ⟨Int.mul_nonneg h1 h3, Int.mul_le_mul h2 h4 h3 (Int.le_trans h1 h2)⟩
def PwInv (v : Int) (w : World) (ov iv : Value) (wr : World) : Prop := ∃ k : Nat, k ≤ 2 ∧ iv = .int .i64 k ∧ ov = .int .u64 (if k = 0 then 1 else if k = 1 then v else v * v) ∧ wr = w
theorem wildSquare_any (v : Int) (h : 0 ≤ v ∧ v ≤ 256) (nb : Nat) (w : World) (hB : Blk w nb #[.int .i64 2] 3) : Calls Tryz.prog 164 #[.int .u64 v, .pointer (some ⟨nb, 0, none⟩)] w fun e w' => e = .returned (.int .u64 (v * v)) ∧ Chg Nothing w w' := by
 have b0 := hB.cell 0 (v := .int .i64 2) rfl
 have hm := mul_boundW (a := v) (b := v) (x := 256) (y := 256) h.1 h.2 h.1 h.2
 have hw1 : IntKind.u64.wrap v = v := by rw [IntKind.wrap_u64]; omega
 have hw2 : IntKind.u64.wrap (v * v) = v * v := by rw [IntKind.wrap_u64]; omega
 have hw3 : IntKind.u64.wrap (1 * v) = v := by rw [Int.one_mul]; exact hw1
 clear hB h hm
 go_enter Tryz.func164, Tryz.ntmps164
 go_wp2_with fail
 go_loopw [4, 6] (fun ov iv wr => PwInv v w ov iv wr) (fun _ iv _ => 3 - (intOf iv).toNat)
 case atStart => exact ⟨0, by decide, rfl, rfl, rfl⟩
 case round =>
  obtain ⟨k, hk, rfl, rfl, rfl⟩ := hrel
  have hk3 : k = 0 ∨ k = 1 ∨ k = 2 := by omega
  rcases hk3 with rfl | rfl | rfl
  ·simp only [if_true]
   go_wp2
   go_roundw
   case rel => exact ⟨1, by decide, rfl, by simp, rfl⟩
   case measure => simp [intOf]
  ·simp only [Nat.one_ne_zero, if_false, if_true]
   go_wp2
   go_roundw
   case rel => exact ⟨2, by decide, rfl, by simp, rfl⟩
   case measure => simp [intOf]
  ·rw [if_neg (show ¬ (2 : Nat) = 0 by decide), if_neg (show ¬ (2 : Nat) = 1 by decide)]
   go_wp2
   go_ret
   exact ⟨by first | rfl | simp, Chg.refl _ _⟩
theorem wildPower_any (w : World) : Calls Tryz.prog 163 #[.int .i64 2] w fun e w' => e = .returned (.func (.func 164) #[] #[.pointer (some ⟨w.heap.size, 0, none⟩)]) ∧ Blk w' w.heap.size #[.int .i64 2] 3 ∧ Chg Nothing w w' := by
 go_enter Tryz.func163, Tryz.ntmps163
 go_wp2
 go_ret
 exact ⟨rfl, Blk.new _ _ _, (Chg.refl _ _).alloc _⟩
def byS0 (s : ByteArray) (i : Nat) : Nat := (s.data[i]?.getD 0).toNat
def MdInv (W : World) (n : Nat) (f : Nat → Int) (ov iv : Value) (wr : World) : Prop := ∃ (k : Nat) (A : Option Addr) (c : Nat), k ≤ n ∧ iv = .int .i64 k ∧ ov = .slice A k c ∧ URow wr W.heap.size A k c f ∧ Chg Nothing W wr
theorem madeCls_any (F : Nat → Prop) (A : Option Addr) (n c : Nat) (xs : List Cls) (w : World) (H : ClsRow F w A n c xs) (hl : xs.length = n) (hn9 : n ≤ 100000000) :
  Calls Tryz.prog 165 #[.slice A n c, .func (.func 166) #[] #[]] w fun e w' => (∃ A' c', e = .returned (.slice A' n c') ∧ URow w' w.heap.size A' n c' (valF xs)) ∧ Chg Nothing w w' := by
 have HH := hid (fun (w' : World) (hc : Chg Nothing w w') => H.chg hc (fun _ _ _ h => h))
 have hlh := hid hl
 have hmx := H.max
 have hle := H.le
 clear H hl
 go_enter Tryz.func165, Tryz.ntmps165
 go_wp2_with fail
 go_loopw [5, 10] (fun ov iv wr => MdInv w n (valF xs) ov iv wr) (fun _ iv _ => n - (intOf iv).toNat)
 case atStart => exact ⟨0, none, 0, Nat.zero_le _, rfl, rfl, World.ownsRow_nil _ _ _ _, Chg.refl _ _⟩
 case round =>
  obtain ⟨k, A1, c1, hk, rfl, rfl, hown, hchg⟩ := hrel
  rcases Nat.lt_or_ge k n with hkn | hkn
  ·have hk0 : (0 : Int) ≤ (k : Int) := by omega
   have hkI : (k : Int) < (n : Int) := by omega
   obtain ⟨g, o, rfl, -, hgl, c0, c1', c2, c3⟩ := ClsRow.four (HH.out _ hchg) hlh.out hkn
   obtain ⟨y, hyd⟩ : ∃ y, y = xs.getD k 0 := ⟨_, rfl⟩
   rw [← hyd] at c0 c1' c2 c3
   have hvy := hid (show valF xs k = valC y from by unfold valF; rw [hyd])
   replace hyd := hid hyd
   have hz := Blk.new wr #[.int .u64 0, .int .u64 0, .int .u64 0, .int .u64 0] 84
   have hZ := hid hz
   have hCr := hid hchg
   have hOw := hid hown
   clear hz hchg hown
   go_wp2_with (with_reducible refine halt_op (.store 84 (.tmp 7) (.tmp 13)) ?_)
   unfold Halted
   refine store_blk rfl 84 (.tmp 7) (.tmp 13) (by rfl) _ (by rfl) _ (by rfl) hZ.out (by rfl) (by exact sizeCls) (by rfl) ?_
   intro w3 hB3 hc3
   have hcz := hid (((Chg.refl Nothing wr).alloc (.cells #[.int .u64 0, .int .u64 0, .int .u64 0, .int .u64 0] 84)).then hc3 (fun i hi h => absurd (show i = wr.heap.size from h) (by omega)))
   have hC3 := hid (hCr.out.trans hcz.out)
   have hOw3 := hid (own_chg hOw.out hcz.out (fun _ _ h => h))
   obtain ⟨r0, r1, r2, r3, -, -, -, -, hlt1⟩ := CBox.at_ (show CBox w3 wr.heap.size y from hB3)
   have hVl := hid (fun w => wildValue_any y w)
   obtain ⟨v, hv0⟩ : ∃ v, v = valC y := ⟨_, rfl⟩
   rw [← hv0] at hVl
   have hv := hid (show v = valF xs k from by rw [hvy.out, hv0])
   clear hv0 hB3 hc3 hZ hcz hCr hOw c0 c1' c2 c3
   go_wp2_with fail
   refine (hVl.out _).mono ?_
   rintro e w4 ⟨rfl, hc4⟩
   have hC4 := hid (hC3.out.trans hc4)
   have hOw4 := hid (own_chg hOw3.out hc4 (fun _ _ h => h))
   clear hc4 r0 r1 r2 r3
   go_wp2_with (at_builtin; refine append_one rfl _ _ 134 rfl w.heap.size 82 (.int .u64 0) 8 Tryz.underlying134 infoU rfl A1 c1 k _ rfl hOw4.out (.int .u64 v) rfl rfl ?_ ?_ ?_ ?_)
   ·omega
   ·omega
   ·exact hC4.out.size
   intro A' c' w6 hown6 hc6 hA6
   have hO6 := hid (show URow w6 w.heap.size A' (k + 1) c' (valF xs) from by unfold URow; rw [← urow_succ]; show w6.ownsRow _ _ _ _ _ (_ ++ [Value.int .u64 (valF xs k)]); rw [← hv.out]; exact hown6)
   have oa6 := own_of hOw4.out
   have hC6 := hid (Chg.then hC4.out hc6 (fun i hi h => by have := oa6 _ h; omega))
   clear hown6 hc6 hA6 oa6
   go_wp2
   go_roundw
   case rel => exact ⟨k + 1, A', c', hkn, by go_num, rfl, hO6.out, hC6.out⟩
   case measure => simp [intOf]; omega
  ·obtain rfl : n = k := by omega
   have hd : decide ((n : Int) < (n : Int)) = false := decide_eq_false (by omega)
   have hOw := hid hown
   have hCr := hid hchg
   clear hown hchg
   go_wp2
   go_ret
   exact ⟨⟨A1, c1, rfl, hOw.out⟩, hCr.out⟩
theorem madeByt_any (g n c : Nat) (s : ByteArray) (w : World) (hg : g < w.heap.size) (H : ∀ j, j < n → w.cell? ⟨g, j, none⟩ = some (.int .u8 ((byS0 s j : Nat) : Int))) (hn9 : n ≤ 100000000) (hnc : n ≤ c) (hc9 : c ≤ 9223372036854775807) :
  Calls Tryz.prog 167 #[.slice (some ⟨g, 0, none⟩) n c, .func (.func 168) #[] #[]] w fun e w' => (∃ A' c', e = .returned (.slice A' n c') ∧ URow w' w.heap.size A' n c' (bytF s)) ∧ Chg Nothing w w' := by
 have HH := hid (fun (w' : World) (hc : Chg Nothing w w') (j : Nat) (hj : j < n) => (hc.cells.1 g j hg).trans (H j hj))
 clear H
 go_enter Tryz.func167, Tryz.ntmps167
 go_wp2_with fail
 go_loopw [5, 10] (fun ov iv wr => MdInv w n (bytF s) ov iv wr) (fun _ iv _ => n - (intOf iv).toNat)
 case atStart => exact ⟨0, none, 0, Nat.zero_le _, rfl, rfl, World.ownsRow_nil _ _ _ _, Chg.refl _ _⟩
 case round =>
  obtain ⟨k, A1, c1, hk, rfl, rfl, hown, hchg⟩ := hrel
  rcases Nat.lt_or_ge k n with hkn | hkn
  ·have hk0 : (0 : Int) ≤ (k : Int) := by omega
   have hkI : (k : Int) < (n : Int) := by omega
   have c0 := HH.out _ hchg k hkn
   have h256 : byS0 s k < 256 := UInt8.toNat_lt _
   have hVl := hid (fun w => wildByte_any ((byS0 s k : Nat) : Int) (by omega) w)
   have hv1 := hid (show ((byS0 s k : Nat) : Int) + 1 = bytF s k from rfl)
   have hCr := hid hchg
   have hOw := hid hown
   obtain ⟨v, hv0⟩ : ∃ v, v = ((byS0 s k : Nat) : Int) + 1 := ⟨_, rfl⟩
   rw [← hv0] at hVl
   have hv := hid (show v = bytF s k from by rw [hv0, hv1.out])
   have c0' : wr.cell? ⟨g, 0 + k, none⟩ = some (.int .u8 ((byS0 s k : Nat) : Int)) := by rw [Nat.zero_add]; exact c0
   generalize ((byS0 s k : Nat) : Int) = bb at c0 c0' hVl
   clear hv0 hv1 h256 hchg hown
   go_wp2_with fail
   refine (hVl.out _).mono ?_
   rintro e w4 ⟨rfl, hc4⟩
   have hC4 := hid (hCr.out.trans hc4)
   have hOw4 := hid (own_chg hOw.out hc4 (fun _ _ h => h))
   clear hc4 c0 c0'
   go_wp2_with (at_builtin; refine append_one rfl _ _ 134 rfl w.heap.size 82 (.int .u64 0) 8 Tryz.underlying134 infoU rfl A1 c1 k _ rfl hOw4.out (.int .u64 v) rfl rfl ?_ ?_ ?_ ?_)
   ·omega
   ·omega
   ·exact hC4.out.size
   intro A' c' w6 hown6 hc6 hA6
   have hO6 := hid (show URow w6 w.heap.size A' (k + 1) c' (bytF s) from by unfold URow; rw [← urow_succ]; show w6.ownsRow _ _ _ _ _ (_ ++ [Value.int .u64 (bytF s k)]); rw [← hv.out]; exact hown6)
   have oa6 := own_of hOw4.out
   have hC6 := hid (Chg.then hC4.out hc6 (fun i hi h => by have := oa6 _ h; omega))
   clear hown6 hc6 hA6 oa6
   go_wp2
   go_roundw
   case rel => exact ⟨k + 1, A', c', hkn, by go_num, rfl, hO6.out, hC6.out⟩
   case measure => simp [intOf]; omega
  ·obtain rfl : n = k := by omega
   have hd : decide ((n : Int) < (n : Int)) = false := decide_eq_false (by omega)
   have hOw := hid hown
   have hCr := hid hchg
   clear hown hchg
   go_wp2
   go_ret
   exact ⟨⟨A1, c1, rfl, hOw.out⟩, hCr.out⟩
theorem madeSq_any (base : Nat) (A : Option Addr) (n c nb : Nat) (f : Nat → Int) (w : World) (H : URow w base A n c f) (hf : ∀ j, 0 ≤ f j ∧ f j ≤ 256) (hB : Blk w nb #[.int .i64 2] 3) (hn9 : n ≤ 100000000) :
  Calls Tryz.prog 169 #[.slice A n c, .func (.func 164) #[] #[.pointer (some ⟨nb, 0, none⟩)]] w fun e w' => (∃ A' c', e = .returned (.slice A' n c') ∧ URow w' w.heap.size A' n c' (fun j => f j * f j)) ∧ Chg Nothing w w' := by
 have hE := ElsAt.of_own (enc := Value.int .u64) (d := 0) (xs := (List.range n).map f) (by rw [List.map_map]; exact H)
 have HH := hid (fun (w' : World) (hc : Chg Nothing w w') => hE.chg hc (fun _ _ _ h => h))
 have hBh := hid (fun (w' : World) (hc : Chg Nothing w w') => hB.chg hc id)
 have hcn := hE.2.1
 have hcx := hE.2.2.1
 have hfh := hid hf
 clear H hE hB hf
 go_enter Tryz.func169, Tryz.ntmps169
 go_wp2_with fail
 go_loopw [5, 10] (fun ov iv wr => MdInv w n (fun j => f j * f j) ov iv wr) (fun _ iv _ => n - (intOf iv).toNat)
 case atStart => exact ⟨0, none, 0, Nat.zero_le _, rfl, rfl, World.ownsRow_nil _ _ _ _, Chg.refl _ _⟩
 case round =>
  obtain ⟨k, A1, c1, hk, rfl, rfl, hown, hchg⟩ := hrel
  rcases Nat.lt_or_ge k n with hkn | hkn
  ·have hk0 : (0 : Int) ≤ (k : Int) := by omega
   have hkI : (k : Int) < (n : Int) := by omega
   obtain ⟨ga, oa, rfl, -, hgla, xa⟩ := (HH.out _ hchg).at_ hkn
   rw [show ((List.range n).map f).getD k 0 = f k from by simp [hkn]] at xa
   have hb0 := (hBh.out _ hchg).cell 0 (v := .int .i64 2) rfl
   have hVl := hid (wildSquare_any (f k) (hfh.out k) nb wr (hBh.out _ hchg))
   have hCr := hid hchg
   have hOw := hid hown
   obtain ⟨v, hv0⟩ : ∃ v, v = f k * f k := ⟨_, rfl⟩
   rw [← hv0] at hVl
   have hv := hid hv0
   generalize f k = fk at xa hVl
   clear hv0 hchg hown hb0
   go_wp2_with fail
   refine hVl.out.mono ?_
   rintro e w4 ⟨rfl, hc4⟩
   have hC4 := hid (hCr.out.trans hc4)
   have hOw4 := hid (own_chg hOw.out hc4 (fun _ _ h => h))
   clear hc4 xa
   go_wp2_with (at_builtin; refine append_one rfl _ _ 134 rfl w.heap.size 82 (.int .u64 0) 8 Tryz.underlying134 infoU rfl A1 c1 k _ rfl hOw4.out (.int .u64 v) rfl rfl ?_ ?_ ?_ ?_)
   ·omega
   ·omega
   ·exact hC4.out.size
   intro A' c' w6 hown6 hc6 hA6
   have hO6 := hid (show URow w6 w.heap.size A' (k + 1) c' (fun j => f j * f j) from by unfold URow; rw [← urow_succ]; show w6.ownsRow _ _ _ _ _ (_ ++ [Value.int .u64 (f k * f k)]); rw [← hv.out]; exact hown6)
   have oa6 := own_of hOw4.out
   have hC6 := hid (Chg.then hC4.out hc6 (fun i hi h => by have := oa6 _ h; omega))
   clear hown6 hc6 hA6 oa6
   go_wp2
   go_roundw
   case rel => exact ⟨k + 1, A', c', hkn, by go_num, rfl, hO6.out, hC6.out⟩
   case measure => simp [intOf]; omega
  ·obtain rfl : n = k := by omega
   have hd : decide ((n : Int) < (n : Int)) = false := decide_eq_false (by omega)
   have hOw := hid hown
   have hCr := hid hchg
   clear hown hchg
   go_wp2
   go_ret
   exact ⟨⟨A1, c1, rfl, hOw.out⟩, hCr.out⟩
def WtInv (xs : List Cls) (n : Nat) (w1 : World) (ov iv : Value) (wr : World) : Prop := ∃ k : Nat, k ≤ n ∧ iv = .int .i64 k ∧ ov = .int .u64 (sumN k (fun j => valF xs j * valF xs j * valF xs j)) ∧ Chg Nothing w1 wr
theorem weight_bound (xs : List Cls) : ∀ k, 0 ≤ sumN k (fun j => valF xs j * valF xs j * valF xs j) ∧ sumN k (fun j => valF xs j * valF xs j * valF xs j) ≤ 16777216 * k
 | 0 => ⟨Int.le_refl _, Int.le_refl _⟩
 | k + 1 => by
  have ih := weight_bound xs k
  have hv := valC_bound (xs.getD k 0)
  have h1 := mul_boundW (a := valF xs k) (b := valF xs k) (x := 256) (y := 256) hv.1 hv.2 hv.1 hv.2
  have h2 := mul_boundW (a := valF xs k * valF xs k) (b := valF xs k) (x := 65536) (y := 256) h1.1 h1.2 hv.1 hv.2
  rw [sumN_succ]
  omega
theorem wildWeight_any (F : Nat → Prop) (A : Option Addr) (n c : Nat) (xs : List Cls) (K : Int) (w : World) (H : ClsRow F w A n c xs) (hl : xs.length = n) (hn9 : n ≤ 1000000) :
  Calls Tryz.prog 170 #[.agg #[.slice A n c, .int .i64 K]] w fun e w' => e = .returned (.int .u64 (weightW xs)) ∧ Chg Nothing w w' := by
 have HH := hid (fun (w' : World) (hc : Chg Nothing w w') => H.chg hc (fun _ _ _ h => h))
 have hlh := hid hl
 have hmx := H.max
 have hle := H.le
 have hX := Blk.new w #[.slice A n c, .int .i64 K] 34
 have x0 := hX.cell 0 (v := .slice A n c) rfl
 have hw0 := hid ((Chg.refl Nothing w).alloc (.cells #[.slice A n c, .int .i64 K] 34))
 clear H hl hX
 go_enter Tryz.func170, Tryz.ntmps170
 go_wp2_with fail
 generalize w.alloc (.cells #[.slice A n c, .int .i64 K] 34) = W at *
 go_loopw [3, 10] (fun ov iv wr => WtInv xs n W ov iv wr) (fun _ iv _ => n - (intOf iv).toNat)
 case atStart => exact ⟨0, Nat.zero_le _, rfl, rfl, Chg.refl _ _⟩
 case round =>
  obtain ⟨k, hk, rfl, rfl, hchg⟩ := hrel
  rcases Nat.lt_or_ge k n with hkn | hkn
  ·obtain ⟨g, o, rfl, -, hgl, c0, c1', c2, c3⟩ := ClsRow.four (HH.out _ (hw0.out.trans hchg)) hlh.out hkn
   have hk0 : (0 : Int) ≤ (k : Int) := by omega
   have hkI : (k : Int) < (n : Int) := by omega
   obtain ⟨y, hyd⟩ : ∃ y, y = xs.getD k 0 := ⟨_, rfl⟩
   rw [← hyd] at c0 c1' c2 c3
   have hvy := hid (show valF xs k = valC y from by unfold valF; rw [hyd])
   have hss := hid (sumN_succ k (fun j => valF xs j * valF xs j * valF xs j))
   have hwb := weight_bound xs k
   have hvb := valC_bound y
   replace hyd := hid hyd
   have hz := Blk.new wr #[.int .u64 0, .int .u64 0, .int .u64 0, .int .u64 0] 84
   have hZ := hid hz
   have hCr := hid hchg
   clear hz hchg
   go_wp2_with (with_reducible refine halt_op (.store 84 (.tmp 5) (.tmp 13)) ?_)
   unfold Halted
   refine store_blk rfl 84 (.tmp 5) (.tmp 13) (by rfl) _ (by rfl) _ (by rfl) hZ.out (by rfl) (by exact sizeCls) (by rfl) ?_
   intro w3 hB3 hc3
   have hcz := hid (((Chg.refl Nothing wr).alloc (.cells #[.int .u64 0, .int .u64 0, .int .u64 0, .int .u64 0] 84)).then hc3 (fun i hi h => absurd (show i = wr.heap.size from h) (by omega)))
   have hC3 := hid (hCr.out.trans hcz.out)
   obtain ⟨r0, r1, r2, r3, -, -, -, -, hlt1⟩ := CBox.at_ (show CBox w3 wr.heap.size y from hB3)
   have hVl := hid (fun w => wildValue_any y w)
   obtain ⟨v, hv0⟩ : ∃ v, v = valC y := ⟨_, rfl⟩
   obtain ⟨sm, hsm⟩ : ∃ sm, sm = sumN k (fun j => valF xs j * valF xs j * valF xs j) := ⟨_, rfl⟩
   rw [← hv0] at hVl hvb hvy
   rw [← hsm] at hwb hss ⊢
   have hnx := hid (show sumN (k + 1) (fun j => valF xs j * valF xs j * valF xs j) = sm + v * v * v from by rw [hss.out, hvy.out])
   have h1 := mul_boundW (a := v) (b := v) (x := 256) (y := 256) hvb.1 hvb.2 hvb.1 hvb.2
   have h2 := mul_boundW (a := v * v) (b := v) (x := 65536) (y := 256) h1.1 h1.2 hvb.1 hvb.2
   have hw1 : IntKind.u64.wrap (v * v) = v * v := by rw [IntKind.wrap_u64]; omega
   have hw2 : IntKind.u64.wrap (v * v * v) = v * v * v := by rw [IntKind.wrap_u64]; omega
   have hw3 : IntKind.u64.wrap (sm + v * v * v) = sm + v * v * v := by rw [IntKind.wrap_u64]; omega
   replace hsm := hid hsm
   replace hv0 := hid hv0
   clear hB3 hc3 hZ hcz hCr c0 c1' c2 c3 h1 h2 hwb hvb hss
   go_wp2_with fail
   refine (hVl.out _).mono ?_
   rintro e w4 ⟨rfl, hc4⟩
   have hC4 := hid (hC3.out.trans hc4)
   clear r0 r1 r2 r3 hc4
   go_wp2
   go_roundw
   case rel => exact ⟨k + 1, hkn, by go_num, by rw [hnx.out], hC4.out⟩
   case measure => simp [intOf]; omega
  ·obtain rfl : n = k := by omega
   have hd : decide ((n : Int) < (n : Int)) = false := decide_eq_false (by omega)
   have hfin := hid (show sumN n (fun j => valF xs j * valF xs j * valF xs j) = weightW xs from by unfold weightW; rw [hlh.out])
   rw [hfin.out]
   have hCr := hid (hw0.out.trans hchg)
   clear hchg
   go_wp2
   go_ret
   exact ⟨rfl, hCr.out⟩
theorem mapG_getD (f : Nat → Int) (m j : Nat) (h : j < m) : ((List.range m).map f).getD j 0 = f j := by simp [h]
theorem URow.u64 {w : World} {base : Nat} {A : Option Addr} {n c : Nat} {f : Nat → Int} (h : URow w base A n c f) : U64At (fun k => Of A k ∧ base ≤ k) w A n c ((List.range n).map f) := ElsAt.of_own (enc := Value.int .u64) (d := 0) (xs := (List.range n).map f) (by rw [List.map_map]; exact h)
theorem corrGood (bA bB : Nat) (A B : Option Addr) (m ca n cb : Nat) (f g : Nat → Int) (X Y size : Int) (w : World) (HA : URow w bA A m ca f) (HB : URow w bB B n cb g) (hf : ∀ j, 0 ≤ f j ∧ f j ≤ X) (hg : ∀ j, 0 ≤ g j ∧ g j ≤ Y)
    (h1 : 1 ≤ m) (h64 : m ≤ 64) (hn : n ≤ 100000000) (hX : 0 ≤ X) (hY : 0 ≤ Y) (hb1 : X * Y ≤ 18446744073709551615) (hb2 : X * Y * 64 ≤ 18446744073709551615) (hbad : sizeBad m n size = false) :
    Calls Tryz.prog 150 #[.slice A m ca, .slice B n cb, .int .i64 size] w fun e w' => (∃ A' c', e = .returned (.tuple #[.slice A' (n + 1 - m) c', .int .i64 (countS m n size), .int .i64 0]) ∧ URow w' w.heap.size A' (n + 1 - m) c' (slideN m f g)) ∧ Chg Nothing w w' := by
  by_cases hmn : m ≤ n
  · unfold sizeBad at hbad
    simp only [Bool.and_eq_false_iff, Bool.or_eq_false_iff, Bool.not_eq_false', decide_eq_false_iff_not] at hbad
    rcases hbad with hbad | ⟨hb1', hb2'⟩
    · omega
    obtain ⟨M, hMl⟩ := Option.isSome_iff_exists.1 hb1'
    obtain ⟨hM12, hsz⟩ := logS_some.1 hMl
    obtain ⟨S, hS⟩ : ∃ S : Nat, size = S := ⟨size.toNat, by have : (0 : Int) ≤ 2 ^ M := Int.le_of_lt (Int.pow_pos (by decide)); omega⟩
    subst hS
    have hS2 : S = 2 ^ M := by have : (S : Int) = ((2 ^ M : Nat) : Int) := by rw [hsz, Int.natCast_pow]; rfl
                               omega
    have hXY : 0 ≤ X * Y := Int.mul_nonneg hX hY
    refine (correlate_any _ _ A B m ca n cb M S _ _ X Y w HA.u64 HB.u64 (fun k hk => (own_of HA k hk.1).2) (fun k hk => (own_of HB k hk.1).2)
      h1 hmn (by omega) hM12 hS2 (by omega) (fun z hz => by obtain ⟨i, -, rfl⟩ := List.mem_map.1 hz; exact hf _) (fun z hz => by obtain ⟨i, -, rfl⟩ := List.mem_map.1 hz; exact hg _) hX hY hb1 ?_).mono ?_
    · have := Int.mul_le_mul (Int.le_refl (X * Y)) (show (m : Int) ≤ 64 by omega) (by omega) hXY
      omega
    rintro e w' ⟨A', c', rfl, hR, hc⟩
    rw [show n - m + 1 = n + 1 - m from by omega] at hR ⊢
    refine ⟨⟨A', c', rfl, hR.congr (fun q hq => ?_)⟩, hc⟩
    unfold slideN
    refine sumN_congr fun u hu => ?_
    dsimp only
    rw [mapG_getD _ _ _ hu, mapG_getD _ _ _ (by omega)]
  · have hsl : slidesB m n = false := by unfold slidesB; simp; omega
    refine (correlate_none A B m ca n cb size w hsl).mono ?_
    rintro e w' ⟨rfl, hc⟩
    have hcs : countS m n size = 0 := by
      unfold countS
      rw [show min (n : Int) 1099511627776 = n from by omega, hsl]
      rfl
    rw [show n + 1 - m = 0 from by omega, hcs]
    exact ⟨⟨none, 0, rfl, World.ownsRow_nil _ _ _ _⟩, hc⟩
theorem bytes_calm (w : World) (e : TypeId) (s : ByteArray) : Chg Nothing w (Go.Lib.bytesWorld w e s) := ⟨rfl, rfl, rfl, by rw [Go.Lib.bytesWorld_size]; omega, fun k hk _ => Go.Lib.bytesWorld_at_old w e s k hk⟩
theorem bytes_cells (w : World) (e : TypeId) (s : ByteArray) (j : Nat) (hj : j < s.size) : (Go.Lib.bytesWorld w e s).cell? ⟨w.heap.size, j, none⟩ = some (.int .u8 ((byS0 s j : Nat) : Int)) := by
 rw [Go.Lib.bytesWorld_cell w e s j hj]
 unfold byS0
 rw [List.getD_eq_getElem?_getD, Array.getElem?_toList]
theorem oneW_nonneg (xs : List Cls) (s : ByteArray) (i j : Nat) : 0 ≤ oneW xs s i j := by
 unfold oneW
 refine Int.mul_nonneg (valC_bound _).1 ?_
 generalize valF xs j - bytF s (i + j) = d
 rcases Int.le_total 0 d with h | h
 ·exact Int.mul_nonneg h h
 ·have := Int.mul_nonneg (show 0 ≤ -d by omega) (show 0 ≤ -d by omega)
  rwa [Int.neg_mul_neg] at this
theorem slide_le (m : Nat) (p t : Nat → Int) (X Y : Int) (hp : ∀ j, 0 ≤ p j ∧ p j ≤ X) (ht : ∀ j, 0 ≤ t j ∧ t j ≤ Y) (hm : m ≤ 64) (hX : 0 ≤ X) (hY : 0 ≤ Y) (i : Nat) : 0 ≤ slideN m p t i ∧ slideN m p t i ≤ 64 * (X * Y) := by
 unfold slideN
 refine ⟨sumN_nonneg _ _ fun u _ => Int.mul_nonneg (hp u).1 (ht _).1, ?_⟩
 have h := sumN_le m (fun u => p u * t (i + u)) (X * Y) (fun u _ => Int.mul_le_mul (hp u).2 (ht _).2 (ht _).1 hX)
 have h2 := Int.mul_le_mul (show (m : Int) ≤ 64 by omega) (Int.le_refl (X * Y)) (Int.mul_nonneg hX hY) (by decide)
 omega
def sqV (xs : List Cls) (j : Nat) : Int := valF xs j * valF xs j
def sqB (s : ByteArray) (j : Nat) : Int := bytF s j * bytF s j
theorem valF_bound (xs : List Cls) (j : Nat) : 0 ≤ valF xs j ∧ valF xs j ≤ 256 := valC_bound _
theorem bytF_bound0 (s : ByteArray) (j : Nat) : 0 ≤ bytF s j ∧ bytF s j ≤ 256 := by have := bytF_bound s j; omega
theorem sqV_bound (xs : List Cls) (j : Nat) : 0 ≤ sqV xs j ∧ sqV xs j ≤ 65536 := by
 have h := mul_boundW (valF_bound xs j).1 (valF_bound xs j).2 (valF_bound xs j).1 (valF_bound xs j).2
 unfold sqV
 exact ⟨h.1, by have := h.2; omega⟩
theorem sqB_bound (s : ByteArray) (j : Nat) : 0 ≤ sqB s j ∧ sqB s j ≤ 65536 := by
 have h := mul_boundW (bytF_bound0 s j).1 (bytF_bound0 s j).2 (bytF_bound0 s j).1 (bytF_bound0 s j).2
 unfold sqB
 exact ⟨h.1, by have := h.2; omega⟩
def WsInv (w9 : World) (base : Nat) (A : Option Addr) (N c : Nat) (f v : Nat → Int) (iv : Value) (wr : World) : Prop := ∃ i : Nat, i ≤ N ∧ iv = .int .i64 i ∧ URow wr base A N c (fun q => if q < i then v q else f q) ∧ Chg (Of A) w9 wr
theorem urow_set {N i : Nat} {f v : Nat → Int} (hi : i < N) : (((List.range N).map fun q => Value.int .u64 (if q < i then v q else f q)).set i (.int .u64 (v i))) = (List.range N).map fun q => Value.int .u64 (if q < i + 1 then v q else f q) := by
 refine List.ext_getElem (by simp) fun q h1 h2 => ?_
 simp only [List.length_map, List.length_range] at h2
 rw [List.getElem_set]
 simp only [List.getElem_map, List.getElem_range]
 by_cases h : i = q
 ·subst h
  rw [if_pos rfl, if_pos (by omega)]
 ·rw [if_neg h]
  by_cases h3 : q < i
  ·rw [if_pos h3, if_pos (by omega)]
  ·rw [if_neg h3, if_neg (by omega)]
theorem wildSums_any (F : Nat → Prop) (A : Option Addr) (n c : Nat) (xs : List Cls) (K : Int) (s : ByteArray) (size : Int) (w : World) (H : ClsRow F w A n c xs) (hl : xs.length = n) (hs : s.size ≤ 100000000) (hr : rightB xs K = true) (hp : plainB xs = true) (hbad : sizeBad n s.size size = false) :
  Calls Tryz.prog 142 #[.agg #[.slice A n c, .int .i64 K], .string s, .int .i64 size] w fun e w' => (∃ A' c', e = .returned (.tuple #[.slice A' (s.size + 1 - n) c', .int .i64 (2 * countS n s.size size), .int .i64 0]) ∧ URow w' w.heap.size A' (s.size + 1 - n) c' (sumsW xs s)) ∧ Chg Nothing w w' := by
 have h64 := right_len hr
 rw [hl] at h64
 have hX := hid (Blk.new w #[.slice A n c, .int .i64 K] 34)
 have hw0 := hid ((Chg.refl Nothing w).alloc (.cells #[.slice A n c, .int .i64 K] 34))
 have hHH := hid (fun (w' : World) (hc : Chg Nothing w w') => H.chg hc (fun _ _ _ h => h))
 have hRt := hid (fun (w' : World) (hc : Chg Nothing w w') => leafRight_any F A n c xs K w' (hHH.out _ hc) hl)
 have hPl := hid (fun (w' : World) (hc : Chg Nothing w w') => leafPlain_any F A n c xs K w' (hHH.out _ hc) hl (by omega))
 have hMc := hid (fun (w' : World) (hc : Chg Nothing w w') => madeCls_any F A n c xs w' (hHH.out _ hc) hl (by omega))
 have hWt := hid (fun (w' : World) (hc : Chg Nothing w w') => wildWeight_any F A n c xs K w' (hHH.out _ hc) hl (by omega))
 have hcv := fun W => Go.Lib.run_convert_string_bytes (P := Tryz.prog) W 9 127 5 s Tryz.underlying9 Tryz.underlying127 Tryz.underlying5
 rw [hr] at hRt
 rw [hp] at hPl
 have hcb := countS_bound n s.size size (by omega) (by omega)
 obtain ⟨cs, hcs⟩ : ∃ cs, cs = countS n s.size size := ⟨_, rfl⟩
 rw [← hcs] at hcb
 have hwcs : IntKind.i64.wrap (cs + cs) = 2 * cs := by rw [IntKind.wrap_i64]; omega
 have hmx := H.max
 have hle := H.le
 have hlh := hid hl
 replace hcs := hid hcs
 have hnn := hid h64
 clear H hl hr hp
 have x0 := hX.out.cell 0 (v := .slice A n c) rfl
 have x1 := hX.out.cell 1 (v := .int .i64 K) rfl
 go_enter Tryz.func142, Tryz.ntmps142
 go_wp2_with fail
 refine (hRt.out _ hw0.out).mono ?_
 rintro e w1 ⟨rfl, hc1⟩
 have hX1 := hid (hX.out.chg hc1 id)
 have hC1 := hid (hw0.out.trans hc1)
 clear hc1 x0 x1
 have x0 := hX1.out.cell 0 (v := .slice A n c) rfl
 have x1 := hX1.out.cell 1 (v := .int .i64 K) rfl
 go_wp2_with fail
 refine (hPl.out _ hC1.out).mono ?_
 rintro e w2 ⟨rfl, hc2⟩
 have hX2 := hid (hX1.out.chg hc2 id)
 have hC2 := hid (hC1.out.trans hc2)
 clear hc2 x0 x1 hX1
 have x0 := hX2.out.cell 0 (v := .slice A n c) rfl
 have x1 := hX2.out.cell 1 (v := .int .i64 K) rfl
 go_wp2_with fail
 refine (hMc.out _ hC2.out).mono ?_
 rintro e w3 ⟨⟨Ap, cp, rfl, hP3⟩, hc3⟩
 have hX3 := hid (hX2.out.chg hc3 id)
 have hC3 := hid (hC2.out.trans hc3)
 have hP3h := hid hP3
 clear hc3 x0 x1 hX2 hP3
 go_wp2_with fail
 have hb4 := bytes_calm w3 5 s
 have hMb := hid (madeByt_any w3.heap.size s.size (grownCap w3 s.size 0 5) s (Go.Lib.bytesWorld w3 5 s) (by rw [Go.Lib.bytesWorld_size]; omega) (bytes_cells w3 5 s) hs (grownCap_ge _ _ _ _) (by have := grownCap_le_maxLen w3 s.size 0 5 (by unfold maxLen; omega); unfold maxLen at this; omega))
 have hX4 := hid (hX3.out.chg hb4 id)
 have hC4 := hid (hC3.out.trans hb4)
 have hP4 := hid (own_chg hP3h.out hb4 (fun _ _ h => h))
 clear hb4 hcv hX3 hP3h
 refine hMb.out.mono ?_
 rintro e w5 ⟨⟨Ab, cb, rfl, hB5⟩, hc5⟩
 have hX5 := hid (hX4.out.chg hc5 id)
 have hC5 := hid (hC4.out.trans hc5)
 have hP5 := hid (own_chg hP4.out hc5 (fun _ _ h => h))
 have hB5h := hid hB5
 clear hc5 hX4 hP4 hB5 hMb
 go_wp2_with fail
 refine (wildPower_any _).mono ?_
 rintro e w6 ⟨rfl, hN6, hc6⟩
 have hX6 := hid (hX5.out.chg hc6 id)
 have hC6 := hid (hC5.out.trans hc6)
 have hP6 := hid (own_chg hP5.out hc6 (fun _ _ h => h))
 have hB6 := hid (own_chg hB5h.out hc6 (fun _ _ h => h))
 have hM6 := hid (madeSq_any _ Ap n cp w5.heap.size (valF xs) w6 hP6.out (valF_bound xs) hN6 (by omega))
 clear hc6 hX5 hP5 hB5h hN6
 go_wp2_with fail
 refine hM6.out.mono ?_
 rintro e w7 ⟨⟨Aq, cq, rfl, hQ7⟩, hc7⟩
 have hX7 := hid (hX6.out.chg hc7 id)
 have hC7 := hid (hC6.out.trans hc7)
 have hP7 := hid (own_chg hP6.out hc7 (fun _ _ h => h))
 have hB7 := hid (own_chg hB6.out hc7 (fun _ _ h => h))
 have hCo := hid (corrGood _ _ Aq Ab n cq s.size cb (sqV xs) (bytF s) 65536 256 size w7 hQ7 hB7.out (sqV_bound xs) (bytF_bound0 s) h64.1 h64.2 hs (by decide) (by decide) (by decide) (by decide) hbad)
 rw [← hcs.out] at hCo
 clear hc7 hX6 hP6 hB6 hM6 hQ7
 go_wp2_with fail
 refine hCo.out.mono ?_
 rintro e w8 ⟨⟨Am, cm, rfl, hMid⟩, hc8⟩
 have hX8 := hid (hX7.out.chg hc8 id)
 have hC8 := hid (hC7.out.trans hc8)
 have hP8 := hid (own_chg hP7.out hc8 (fun _ _ h => h))
 have hB8 := hid (own_chg hB7.out hc8 (fun _ _ h => h))
 have hMh := hid (own_low hMid hC7.out.size)
 clear hc8 hX7 hP7 hB7 hCo hMid
 go_wp2_with fail
 refine (wildPower_any _).mono ?_
 rintro e w9 ⟨rfl, hN9, hc9⟩
 have hX9 := hid (hX8.out.chg hc9 id)
 have hC9 := hid (hC8.out.trans hc9)
 have hP9 := hid (own_chg hP8.out hc9 (fun _ _ h => h))
 have hB9 := hid (own_chg hB8.out hc9 (fun _ _ h => h))
 have hM9 := hid (own_chg hMh.out hc9 (fun _ _ h => h))
 have hSq := hid (madeSq_any _ Ab s.size cb w8.heap.size (bytF s) w9 hB9.out (bytF_bound0 s) hN9 hs)
 clear hc9 hX8 hP8 hB8 hMh hN9
 go_wp2_with fail
 refine hSq.out.mono ?_
 rintro e wa ⟨⟨Aq2, cq2, rfl, hQa⟩, hca⟩
 have hXa := hid (hX9.out.chg hca id)
 have hCa := hid (hC9.out.trans hca)
 have hPa := hid (own_chg hP9.out hca (fun _ _ h => h))
 have hMa := hid (own_chg hM9.out hca (fun _ _ h => h))
 have hCo := hid (corrGood _ _ Ap Aq2 n cp s.size cq2 (valF xs) (sqB s) 256 65536 size wa hPa.out hQa (valF_bound xs) (sqB_bound s) h64.1 h64.2 hs (by decide) (by decide) (by decide) (by decide) hbad)
 rw [← hcs.out] at hCo
 clear hca hX9 hP9 hB9 hM9 hSq hQa
 go_wp2_with fail
 refine hCo.out.mono ?_
 rintro e wb ⟨⟨Ah, ch, rfl, hHi⟩, hcb2⟩
 have hXb := hid (hXa.out.chg hcb2 id)
 have hCb := hid (hCa.out.trans hcb2)
 have hMb := hid (own_chg hMa.out hcb2 (fun _ _ h => h))
 have hHh := hid hHi
 have hlo := hid (hCa.out.size)
 have hMa2 := hid hMa.out
 clear hcb2 hXa hPa hMa hCo hHi
 have x0 := hXb.out.cell 0 (v := .slice A n c) rfl
 have x1 := hXb.out.cell 1 (v := .int .i64 K) rfl
 go_wp2_with fail
 refine (hWt.out _ hCb.out).mono ?_
 rintro e wc ⟨rfl, hcc⟩
 have hCc := hid (hCb.out.trans hcc)
 have hMc2 := hid (own_chg hMb.out hcc (fun _ _ h => h))
 have hHc := hid (own_chg hHh.out hcc (fun _ _ h => h))
 have hHlo := hid (show ∀ j, Of Ah j → wa.heap.size ≤ j from fun j hj => (own_of hHh.out j hj).1)
 have hMhi := hid (show ∀ j, Of Am j → j < wa.heap.size from fun j hj => (own_of hMa2.out j hj).2)
 have hMlo := hid (show ∀ j, Of Am j → w.heap.size ≤ j from fun j hj => (own_of hMb.out j hj).1)
 have hHE := hid (URow.u64 hHc.out)
 have hmnc := URow.nc hMc2.out
 have hws := hid (fun i => (show weightW xs - 2 * slideN n (sqV xs) (bytF s) i + slideN n (valF xs) (sqB s) i = sumsW xs s i from by unfold sumsW; rw [hlh.out]; rfl))
 have hsn := hid (fun i => (show 0 ≤ sumsW xs s i ∧ sumsW xs s i ≤ 64 * (256 * 65536) + 16777216 * 64 from by
  have h1 := (slide_le n (valF xs) (sqB s) 256 65536 (valF_bound xs) (sqB_bound s) hnn.out.2 (by decide) (by decide) i)
  have h2 := (slide_le n (sqV xs) (bytF s) 65536 256 (sqV_bound xs) (bytF_bound0 s) hnn.out.2 (by decide) (by decide) i)
  have h3 := weight_bound xs xs.length
  have h4 := hws.out i
  have h5 := hlh.out
  have h6 : weightW xs = sumN xs.length (fun j => valF xs j * valF xs j * valF xs j) := rfl
  have h7 := hnn.out.2
  refine ⟨?_, by omega⟩
  rw [sumsW_eq]
  exact sumN_nonneg _ _ fun j _ => oneW_nonneg xs s i j))
 have hmb2 := hid (fun i => slide_le n (sqV xs) (bytF s) 65536 256 (sqV_bound xs) (bytF_bound0 s) hnn.out.2 (by decide) (by decide) i)
 have hhb := hid (fun i => slide_le n (valF xs) (sqB s) 256 65536 (valF_bound xs) (sqB_bound s) hnn.out.2 (by decide) (by decide) i)
 have hwb := weight_bound xs xs.length
 obtain ⟨W0, hW0⟩ : ∃ W0, W0 = weightW xs := ⟨_, rfl⟩
 rw [show sumN xs.length (fun j => valF xs j * valF xs j * valF xs j) = weightW xs from rfl, ← hW0] at hwb
 rw [← hW0]
 rw [← hW0] at hws
 have hwb2 : W0 ≤ 1073741824 := by have := hlh.out; omega
 replace hwb := hwb.1
 replace hW0 := hid hW0
 obtain ⟨N, hN⟩ : ∃ N, N = s.size + 1 - n := ⟨_, rfl⟩
 rw [← hN] at hMc2 hHE hmnc ⊢
 have hN9 : N ≤ 100000001 := by omega
 replace hN := hid hN
 clear hcc x0 x1 hXb hCb hMb hHh hHc hMa2
 go_wp2_with fail
 go_loopw [63] (fun iv wr => WsInv wc w.heap.size Am N cm (slideN n (sqV xs) (bytF s)) (sumsW xs s) iv wr) (fun iv _ => N - (intOf iv).toNat)
 case atStart => exact ⟨0, Nat.zero_le _, rfl, URow.congr (f := slideN n (sqV xs) (bytF s)) hMc2.out (fun q _ => by rw [if_neg (by omega)]), Chg.refl _ _⟩
 case round =>
  obtain ⟨i, hi, rfl, hM, hchg⟩ := hrel
  rcases Nat.lt_or_ge i N with hin | hin
  ·have hi0 : (0 : Int) ≤ (i : Int) := by omega
   have hiI : (i : Int) < (N : Int) := by omega
   obtain ⟨g, rfl, hgb, hgl, hcl, hfr, hset⟩ := own_at hM hin undef
   have hcl2 : wr.cell? ⟨g, i, none⟩ = some (.int .u64 (slideN n (sqV xs) (bytF s) i)) := by rw [hcl]; simp [hin]
   obtain ⟨gh, oh, rfl, -, hghl, xh⟩ := (hHE.out.chg hchg (fun k hk hs hof => by have h1 := hHlo.out k hs.1; have h2 := hMhi.out k hof; omega)).at_ hin
   rw [mapG_getD _ _ _ hin] at xh
   have hgh : gh ≠ g := fun e => by
    have h1 := hHlo.out gh ⟨_, rfl, rfl⟩
    have h2 := hMhi.out g ⟨_, rfl, rfl⟩
    omega
   have hwsi := hws.out i
   have hsni := hsn.out i
   have hmbi := hmb2.out i
   have hhbi := hhb.out i
   obtain ⟨mi, hmi⟩ : ∃ mi, mi = slideN n (sqV xs) (bytF s) i := ⟨_, rfl⟩
   obtain ⟨hv, hhv⟩ : ∃ hv, hv = slideN n (valF xs) (sqB s) i := ⟨_, rfl⟩
   rw [← hmi] at hcl2 hwsi hmbi
   rw [← hhv] at xh hwsi hhbi
   obtain ⟨sv, hsv⟩ : ∃ sv, sv = sumsW xs s i := ⟨_, rfl⟩
   rw [← hsv] at hwsi hsni
   have hq1 : IntKind.u64.wrap (2 * mi) = 2 * mi := by rw [IntKind.wrap_u64]; omega
   obtain ⟨z, hz⟩ : ∃ z, z = IntKind.u64.wrap (W0 - 2 * mi) := ⟨_, rfl⟩
   have hq2 : IntKind.u64.wrap (z + hv) = sv := by rw [hz, IntKind.wrap_u64, IntKind.wrap_u64]; omega
   have hq3 : IntKind.u64.wrap (W0 - 2 * mi) = z := hz.symm
   have hnext := hid (fun (W : World) (hW : Chg Nothing wr W) => (show URow (W.setCell ⟨g, i, none⟩ (.int .u64 sv)) w.heap.size (some ⟨g, 0, none⟩) N cm (fun q => if q < i + 1 then sumsW xs s q else slideN n (sqV xs) (bytF s) q) ∧ Chg (Of (some ⟨g, 0, none⟩)) wc (W.setCell ⟨g, i, none⟩ (.int .u64 sv)) from by
    refine ⟨?_, hchg.trans ((hW.mono (fun _ _ h => h.elim)).trans (((Chg.refl (One g) W).setOne i (.int .u64 sv)).mono (fun j _ e => ⟨_, rfl, e⟩)))⟩
    have h1 := hset W (.int .u64 sv) ⟨Nothing, hW, id⟩
    rw [hsv, urow_set (v := sumsW xs s) hin] at h1
    rw [hsv]
    exact h1))
   have hgw := hid (Chg.refl Nothing wr)
   replace hz := hid hz
   replace hsv := hid hsv
   replace hmi := hid hmi
   replace hhv := hid hhv
   clear hcl hset hM hchg hwsi
   go_wp2_with fail
   go_region
   all_goals
    go_wp2
    go_roundw
    case rel => exact ⟨i + 1, hin, by go_num, (hnext.out _ hgw.out.drew).1, (hnext.out _ hgw.out.drew).2⟩
    case measure => simp [intOf]; omega
  ·obtain rfl : N = i := by omega
   have hd : decide ((N : Int) < (N : Int)) = false := decide_eq_false (by omega)
   have hfin := hid (hM.congr (f' := sumsW xs s) (fun q hq => by rw [if_pos hq]))
   have hCe := hid (Chg.then hCc.out hchg (fun j hj e => by have := hMlo.out j e; omega))
   clear hM hchg
   go_wp2
   go_ret3
   exact ⟨⟨Am, cm, by rw [← hN.out, ← hcs.out]; rfl, by rw [← hN.out]; exact hfin.out⟩, hCe.out⟩
def WfInv (w1 : World) (xs : List Cls) (s : ByteArray) (N : Nat) (ov iv : Value) (wr : World) : Prop := ∃ (k L : Nat) (A : Option Addr) (c : Nat), k ≤ N ∧ L ≤ k ∧ iv = .int .i64 k ∧ ov = .slice A L c ∧ IRow wr w1.heap.size A L c (fewTo xs 0 s k) ∧ Chg Nothing w1 wr
theorem wildFind_any (F : Nat → Prop) (A : Option Addr) (n c : Nat) (xs : List Cls) (s : ByteArray) (size : Int) (w : World) (H : ClsRow F w A n c xs) (hl : xs.length = n) (hs : s.size ≤ 100000000) (hr : rightB xs 0 = true) (hp : plainB xs = true) (hbad : sizeBad n s.size size = false) :
  Calls Tryz.prog 116 #[.agg #[.slice A n c, .int .i64 0], .string s, .int .i64 size] w fun e w' => GivesSym w.heap.size w' e (fewTo xs 0 s (s.size + 1 - n)) (2 * countS n s.size size) 0 ∧ Chg Nothing w w' := by
 have hX := Blk.new w #[.slice A n c, .int .i64 0] 34
 have x0 := hX.cell 0 (v := .slice A n c) rfl
 have x1 := hX.cell 1 (v := .int .i64 0) rfl
 have hw0 := hid ((Chg.refl Nothing w).alloc (.cells #[.slice A n c, .int .i64 0] 34))
 have hS := hid (wildSums_any F A n c xs 0 s size (w.alloc (.cells #[.slice A n c, .int .i64 0] 34)) (H.chg hw0.out (fun _ _ _ h => h)) hl hs hr hp hbad)
 obtain ⟨N, hN⟩ : ∃ N, N = s.size + 1 - n := ⟨_, rfl⟩
 rw [← hN] at hS ⊢
 have hN9 : N ≤ 100000001 := by omega
 have hz := hid (fun i => (sumsW_zero xs s i hp))
 have hm0 := hid (fun i => (show 0 ≤ missN xs s i from by rw [← missTo_all]; exact (missTo_bound xs s i xs.length).1))
 replace hN := hid hN
 obtain ⟨cs, hcs⟩ : ∃ cs, cs = 2 * countS n s.size size := ⟨_, rfl⟩
 rw [← hcs] at hS ⊢
 clear hcs hX H hl hr hp hbad
 go_enter Tryz.func116, Tryz.ntmps116
 go_wp2_with fail
 refine hS.out.mono ?_
 rintro e w2 ⟨⟨A2, c2, rfl, hU⟩, hc2⟩
 have hC2 := hid (hw0.out.trans hc2)
 have hUE := hid (URow.u64 hU)
 have hnc := URow.nc hU
 clear hc2 hU hS x0 x1
 go_wp2_with fail
 go_loopw [12, 28] (fun ov iv wr => WfInv w2 xs s N ov iv wr) (fun _ iv _ => N - (intOf iv).toNat)
 case atStart => exact ⟨0, 0, none, 0, Nat.zero_le _, Nat.zero_le _, rfl, rfl, World.ownsRow_nil _ _ _ _, Chg.refl _ _⟩
 case round =>
  obtain ⟨k, L, A1, c1, hk, hLk, rfl, rfl, hown, hchg⟩ := hrel
  rcases Nat.lt_or_ge k N with hkn | hkn
  ·obtain ⟨ga, oa, rfl, -, hgla, xa⟩ := (hUE.out.chg hchg (fun _ _ _ h => h)).at_ hkn
   rw [mapG_getD _ _ _ hkn] at xa
   have hk0 : (0 : Int) ≤ (k : Int) := by omega
   have hkI : (k : Int) < (N : Int) := by omega
   have hzk := hz.out k
   have hmk := hm0.out k
   have hy := hid (fun h => fewTo_yes (xs := xs) (K := 0) (s := s) (n := k) h)
   have hno := hid (fun h => fewTo_no (xs := xs) (K := 0) (s := s) (n := k) h)
   obtain ⟨x, hx⟩ : ∃ x, x = sumsW xs s k := ⟨_, rfl⟩
   rw [← hx] at xa hzk
   have hOw := hid hown
   have hCr := hid hchg
   clear hown hchg hx
   by_cases hxk : x = 0
   ·have hyy := hid (hy.out (by rw [hzk.2.1 hxk]; exact Int.le_refl _))
    have g1 : (x == 0) = true := beq_iff_eq.2 hxk
    replace hxk := hid hxk
    clear hzk hmk
    go_wp2_with (at_builtin; refine append_one rfl _ _ 37 rfl w2.heap.size 3 (.int .i64 0) 8 Tryz.underlying37 infoInt rfl A1 c1 L _ rfl hOw.out (.int .i64 (k : Nat)) rfl rfl ?_ ?_ ?_ ?_)
    ·omega
    ·omega
    ·exact hCr.out.size
    intro A' c' w6 hown6 hc6 hA6
    have hO6 := hid (show IRow w6 w2.heap.size A' (L + 1) c' (fewTo xs 0 s (k + 1)) from by rw [hyy.out]; unfold IRow; rw [List.map_append]; exact hown6)
    have oa6 := own_of hOw.out
    have hC6 := hid (hCr.out.then hc6 (fun i hi h => by have := oa6 _ h; omega))
    clear hown6 hc6 hA6
    go_wp2
    go_roundw
    case rel => exact ⟨k + 1, L + 1, A', c', hkn, by omega, by go_num, rfl, hO6.out, hC6.out⟩
    case measure => simp [intOf]; omega
   ·have hnn := hid (hno.out (fun h => hxk (hzk.2.2 (by omega))))
    have g1 : (x == 0) = false := beq_eq_false_iff_ne.2 hxk
    replace hxk := hid hxk
    clear hzk hmk
    go_wp2
    go_roundw
    case rel => exact ⟨k + 1, L, A1, c1, hkn, by omega, by go_num, rfl, by rw [hnn.out]; exact hOw.out, hCr.out⟩
    case measure => simp [intOf]; omega
  ·obtain rfl : k = N := by omega
   have hd : decide ((k : Int) < (k : Int)) = false := decide_eq_false (by omega)
   have hl := hid hown.1
   have hOw := hid hown
   have hCr := hid hchg
   clear hown hchg
   go_wp2
   go_ret3
   have hL : L = (fewTo xs 0 s k).length := by have := hl.out; simpa using this.symm
   subst hL
   exact ⟨⟨_, _, rfl, own_low hOw.out hC2.out.size⟩, hC2.out.trans hCr.out⟩
def mE (xs : List Cls) (K way n size : Int) : Int := if admitsB xs K way = true then (if sizedM xs K way n size = true then 0 else 50) else 170
def countW (xs : List Cls) (way n size : Int) : Int := if way = 3 then 2 * countS xs.length n size else if way = 4 then ((kindsL xs).length : Int) * countS xs.length n size else if way = 5 then (partsF xs : Int) * countS xs.length n size else 0
def mN (xs : List Cls) (K way n size : Int) : Int := if mE xs K way n size = 0 then countW xs way n size else 0
def findM (xs : List Cls) (K : Int) (s : ByteArray) : List Int := fewTo xs K s (sumsN xs K s.size)
def mF (xs : List Cls) (K way : Int) (s : ByteArray) (size : Int) : List Int := if mE xs K way s.size size = 0 then findM xs K s else []
theorem mE_zero {xs : List Cls} {K way n size : Int} : mE xs K way n size = 0 ↔ sizedM xs K way n size = true := by
 unfold mE
 by_cases ha : admitsB xs K way = true
 ·rw [if_pos ha]
  by_cases hs : sizedM xs K way n size = true
  ·rw [if_pos hs]; simp [hs]
  ·rw [if_neg hs]; simp [hs]
 ·rw [if_neg ha]
  have : sizedM xs K way n size = false := by unfold sizedM; rw [Bool.not_eq_true] at ha; rw [ha]; rfl
  simp [this]
theorem countsR_mis (xs : List Cls) (K : Int) (s : ByteArray) : countsR xs K s = misTo xs s (sumsN xs K s.size) := by
 unfold countsR sumsN misTo countsL
 split <;> rfl
theorem hits_few (xs : List Cls) (K : Int) (s : ByteArray) : hitsTo (countsR xs K s) K (countsR xs K s).length = findM xs K s := by
 rw [countsR_mis, misTo_len]
 unfold hitsTo findM fewTo misTo
 congr 1
 refine List.filter_congr fun i hi => ?_
 have h : i < sumsN xs K s.size := by simpa using hi
 simp [h]
theorem matchCheck_any (F : Nat → Prop) (A : Option Addr) (m c : Nat) (xs : List Cls) (K way : Int) (s : ByteArray) (size : Int) (w : World) (H : ClsRow F w A m c xs) (hl : xs.length = m) (hn9 : m ≤ 100000000) (hs : s.size ≤ 1000000000) :
  Calls Tryz.prog 72 #[.int .i64 way, .agg #[.slice A m c, .int .i64 K], .string s, .int .i64 size] w fun e w' => e = .returned (.int .i64 (mE xs K way s.size size)) ∧ Chg Nothing w w' := by
 have hX := Blk.new w #[.slice A m c, .int .i64 K] 34
 have x0 := hX.cell 0 (v := .slice A m c) rfl
 have x1 := hX.cell 1 (v := .int .i64 K) rfl
 have hxl := hX.lt
 have hw0 := hid ((Chg.refl Nothing w).alloc (.cells #[.slice A m c, .int .i64 K] 34))
 have hAd := hid (fun (w' : World) (hc : Chg Nothing w w') => planAdmits_any F A m c xs K way w' (H.chg hc (fun _ _ _ h => h)) hl (by omega))
 have hSz := hid (fun (w' : World) (hc : Chg Nothing w w') => planSized_any F A m c xs K way s.size size w' (H.chg hc (fun _ _ _ h => h)) hl hn9)
 unfold mE
 generalize admitsB xs K way = adm at hAd ⊢
 generalize sizedM xs K way s.size size = sz at hSz ⊢
 clear hX H hl
 cases adm with
 | false =>
  rw [if_neg (by decide)]
  go_enter Tryz.func72, Tryz.ntmps72
  go_wp2_with fail
  refine (hAd.out _ hw0.out).mono ?_
  rintro e w1 ⟨rfl, hc1⟩
  have hC1 := hid (hw0.out.trans hc1)
  clear hc1 x0 x1
  go_wp2
  go_ret
  exact ⟨rfl, hC1.out⟩
 | true =>
  rw [if_pos rfl]
  cases sz with
  | false =>
   rw [if_neg (by decide)]
   go_enter Tryz.func72, Tryz.ntmps72
   go_wp2_with fail
   refine (hAd.out _ hw0.out).mono ?_
   rintro e w1 ⟨rfl, hc1⟩
   have y0 := (hc1.cells.1 _ _ hxl).trans x0
   have y1 := (hc1.cells.1 _ _ hxl).trans x1
   have hC1 := hid (hw0.out.trans hc1)
   clear hc1 x0 x1
   go_wp2_with fail
   refine (hSz.out _ hC1.out).mono ?_
   rintro e w2 ⟨rfl, hc2⟩
   have hC2 := hid (hC1.out.trans hc2)
   clear hc2 y0 y1
   go_wp2
   go_ret
   exact ⟨rfl, hC2.out⟩
  | true =>
   rw [if_pos rfl]
   go_enter Tryz.func72, Tryz.ntmps72
   go_wp2_with fail
   refine (hAd.out _ hw0.out).mono ?_
   rintro e w1 ⟨rfl, hc1⟩
   have y0 := (hc1.cells.1 _ _ hxl).trans x0
   have y1 := (hc1.cells.1 _ _ hxl).trans x1
   have hC1 := hid (hw0.out.trans hc1)
   clear hc1 x0 x1
   go_wp2_with fail
   refine (hSz.out _ hC1.out).mono ?_
   rintro e w2 ⟨rfl, hc2⟩
   have hC2 := hid (hC1.out.trans hc2)
   clear hc2 y0 y1
   go_wp2
   go_ret
   exact ⟨rfl, hC2.out⟩
theorem refCheck17_any (F : Nat → Prop) (A : Option Addr) (m c : Nat) (xs : List Cls) (K way n size : Int) (w : World) (H : ClsRow F w A m c xs) (hl : xs.length = m) (hn9 : m ≤ 100000000) :
  Calls Tryz.prog 74 #[.int .i64 way, .agg #[.slice A m c, .int .i64 K], .int .i64 n, .int .i64 size] w fun e w' => e = .returned (.int .i64 (mE xs K way n size)) ∧ Chg Nothing w w' := by
 have hX := Blk.new w #[.slice A m c, .int .i64 K] 34
 have x0 := hX.cell 0 (v := .slice A m c) rfl
 have x1 := hX.cell 1 (v := .int .i64 K) rfl
 have hxl := hX.lt
 have hw0 := hid ((Chg.refl Nothing w).alloc (.cells #[.slice A m c, .int .i64 K] 34))
 have hAd := hid (fun (w' : World) (hc : Chg Nothing w w') => refAdmits_any F A m c xs K way w' (H.chg hc (fun _ _ _ h => h)) hl (by omega))
 have hSz := hid (fun (w' : World) (hc : Chg Nothing w w') => refSized16_any F A m c xs K way n size w' (H.chg hc (fun _ _ _ h => h)) hl hn9)
 unfold mE
 generalize admitsB xs K way = adm at hAd ⊢
 generalize sizedM xs K way n size = sz at hSz ⊢
 clear hX H hl
 cases adm with
 | false =>
  rw [if_neg (by decide)]
  go_enter Tryz.func74, Tryz.ntmps74
  go_wp2_with fail
  refine (hAd.out _ hw0.out).mono ?_
  rintro e w1 ⟨rfl, hc1⟩
  have hC1 := hid (hw0.out.trans hc1)
  clear hc1 x0 x1
  go_wp2
  go_ret
  exact ⟨rfl, hC1.out⟩
 | true =>
  rw [if_pos rfl]
  cases sz with
  | false =>
   rw [if_neg (by decide)]
   go_enter Tryz.func74, Tryz.ntmps74
   go_wp2_with fail
   refine (hAd.out _ hw0.out).mono ?_
   rintro e w1 ⟨rfl, hc1⟩
   have y0 := (hc1.cells.1 _ _ hxl).trans x0
   have y1 := (hc1.cells.1 _ _ hxl).trans x1
   have hC1 := hid (hw0.out.trans hc1)
   clear hc1 x0 x1
   go_wp2_with fail
   refine (hSz.out _ hC1.out).mono ?_
   rintro e w2 ⟨rfl, hc2⟩
   have hC2 := hid (hC1.out.trans hc2)
   clear hc2 y0 y1
   go_wp2
   go_ret
   exact ⟨rfl, hC2.out⟩
  | true =>
   rw [if_pos rfl]
   go_enter Tryz.func74, Tryz.ntmps74
   go_wp2_with fail
   refine (hAd.out _ hw0.out).mono ?_
   rintro e w1 ⟨rfl, hc1⟩
   have y0 := (hc1.cells.1 _ _ hxl).trans x0
   have y1 := (hc1.cells.1 _ _ hxl).trans x1
   have hC1 := hid (hw0.out.trans hc1)
   clear hc1 x0 x1
   go_wp2_with fail
   refine (hSz.out _ hC1.out).mono ?_
   rintro e w2 ⟨rfl, hc2⟩
   have hC2 := hid (hC1.out.trans hc2)
   clear hc2 y0 y1
   go_wp2
   go_ret
   exact ⟨rfl, hC2.out⟩
theorem refCount17_any (F : Nat → Prop) (A : Option Addr) (m c : Nat) (xs : List Cls) (K way n size : Int) (w : World) (H : ClsRow F w A m c xs) (hl : xs.length = m) (hn9 : m ≤ 100) (hn : n ≤ 100000000) :
  Calls Tryz.prog 54 #[.int .i64 way, .agg #[.slice A m c, .int .i64 K], .int .i64 n, .int .i64 size] w fun e w' => e = .returned (.int .i64 (countW xs way n size)) ∧ Chg Nothing w w' := by
 have hX := Blk.new w #[.slice A m c, .int .i64 K] 34
 have x0 := hX.cell 0 (v := .slice A m c) rfl
 have x1 := hX.cell 1 (v := .int .i64 K) rfl
 have hw0 := hid ((Chg.refl Nothing w).alloc (.cells #[.slice A m c, .int .i64 K] 34))
 have hCt := hid (fun w => refCount_any m n size w)
 have hKi := hid (fun (w' : World) (hc : Chg Nothing w w') => leafKindsRefM F A m c xs K w' (H.chg hc (fun _ _ _ h => h)) hl (by omega))
 have hPt := hid (fun (w' : World) (hc : Chg Nothing w w') => refParts_any F A m c xs K w' (H.chg hc (fun _ _ _ h => h)) hl (by omega))
 have hcb : 0 ≤ countS m n size ∧ countS m n size ≤ 9000000000 := by
  by_cases hz : slidesB m (min n 1099511627776) = true
  ·have hz2 := hz
   unfold slidesB at hz2
   simp only [Bool.and_eq_true, decide_eq_true_eq] at hz2
   unfold countS
   split
   ·rename_i h3
    simp only [Bool.and_eq_true] at h3
    have h4 := h3.2
    unfold sizedB at h4
    simp only [Bool.and_eq_true, decide_eq_true_eq] at h4
    have h5 : 0 ≤ (min n 1099511627776 - m) / (size - m + 1) := Int.ediv_nonneg (by omega) (by omega)
    have h6 : (min n 1099511627776 - m) / (size - m + 1) ≤ min n 1099511627776 - m := Int.ediv_le_self _ (by omega)
    omega
   ·omega
  ·unfold countS
   rw [show slidesB m (min n 1099511627776) = false from by simpa using hz]
   simp
 have hkl := kindsL_len xs
 have hpb := (partsTo_bound xs (kindsL xs).length).1
 have hmx := H.max
 have hle := H.le
 unfold countW
 rw [hl]
 obtain ⟨kl, hkl2⟩ : ∃ kl, kl = (kindsL xs).length := ⟨_, rfl⟩
 obtain ⟨pf, hpf⟩ : ∃ pf, pf = partsF xs := ⟨_, rfl⟩
 rw [show (partsTo xs (kindsL xs).length).1 = partsF xs from rfl, ← hpf, ← hkl2] at hpb
 rw [← hkl2] at hkl hKi ⊢
 rw [← hpf] at hPt ⊢
 obtain ⟨cs, hcs⟩ : ∃ cs, cs = countS m n size := ⟨_, rfl⟩
 rw [← hcs] at hcb hCt ⊢
 obtain ⟨c1, c2⟩ := hcb
 clear hX H hkl2 hpf hcs
 have m1 := mul_bound (a := (kl : Int)) (b := cs) (x := 100) (y := 9000000000) (by omega) (by omega) c1 c2
 have m2 := mul_bound (a := (pf : Int)) (b := cs) (x := 100) (y := 9000000000) (by omega) (by omega) c1 c2
 have e1 : IntKind.i64.wrap (2 * cs) = 2 * cs := by rw [IntKind.wrap_i64]; omega
 have e2 : IntKind.i64.wrap ((kl : Int) * cs) = (kl : Int) * cs := by rw [IntKind.wrap_i64]; omega
 have e3 : IntKind.i64.wrap ((pf : Int) * cs) = (pf : Int) * cs := by rw [IntKind.wrap_i64]; omega
 clear m1 m2 hl
 by_cases h3 : way = 3
 ·subst h3
  go_enter Tryz.func54, Tryz.ntmps54
  go_wp2_with fail
  refine (hCt.out _).mono ?_
  rintro e w' ⟨rfl, rfl⟩
  go_wp2
  go_ret
  exact ⟨rfl, hw0.out⟩
 by_cases h4 : way = 4
 ·subst h4
  go_enter Tryz.func54, Tryz.ntmps54
  go_wp2_with fail
  refine (hCt.out _).mono ?_
  rintro e w' ⟨rfl, rfl⟩
  go_wp2_with fail
  refine (hKi.out _ hw0.out).mono ?_
  rintro e w1 ⟨A', c', rfl, hc1⟩
  have hC1 := hid (hw0.out.trans hc1)
  clear hc1 x0 x1
  go_wp2
  go_ret
  exact ⟨rfl, hC1.out⟩
 by_cases h5 : way = 5
 ·subst h5
  go_enter Tryz.func54, Tryz.ntmps54
  go_wp2_with fail
  refine (hCt.out _).mono ?_
  rintro e w' ⟨rfl, rfl⟩
  go_wp2_with fail
  refine (hPt.out _ hw0.out).mono ?_
  rintro e w1 ⟨rfl, hc1⟩
  have hC1 := hid (hw0.out.trans hc1)
  clear hc1 x0 x1
  go_wp2
  go_ret
  exact ⟨rfl, hC1.out⟩
 rw [if_neg h3, if_neg h4, if_neg h5]
 have n3 : (way == 3) = false := beq_eq_false_iff_ne.2 h3
 have n4 : (way == 4) = false := beq_eq_false_iff_ne.2 h4
 have n5 : (way == 5) = false := beq_eq_false_iff_ne.2 h5
 replace h3 := hid h3
 replace h4 := hid h4
 replace h5 := hid h5
 go_enter Tryz.func54, Tryz.ntmps54
 go_wp2_with fail
 refine (hCt.out _).mono ?_
 rintro e w' ⟨rfl, rfl⟩
 go_wp2
 go_ret
 exact ⟨rfl, hw0.out⟩
def waysV (way : Int) : Value :=
 if way = 1 then .agg #[.func (.func 110) #[] #[], .func (.func 112) #[] #[]]
 else if way = 2 then .agg #[.func (.func 114) #[] #[], Value.nilFunc]
 else if way = 3 then .agg #[.func (.func 116) #[] #[], Value.nilFunc]
 else if way = 4 then .agg #[.func (.func 117) #[] #[], .func (.func 118) #[] #[]]
 else .agg #[.func (.func 119) #[] #[], .func (.func 121) #[] #[]]
theorem matchWays_any (way : Int) (w : World) : Calls Tryz.prog 73 #[.int .i64 way] w fun e w' => e = .returned (waysV way) ∧ Chg Nothing w w' := by
 unfold waysV
 by_cases h1 : way = 1
 ·subst h1
  go_enter Tryz.func73, Tryz.ntmps73
  go_wp2
  have hB := Blk.new w #[.func (.func 110) #[] #[], .func (.func 112) #[] #[]] 96
  have y0 := hB.cell 0 (v := .func (.func 110) #[] #[]) rfl
  have y1 := hB.cell 1 (v := .func (.func 112) #[] #[]) rfl
  exact bodyPost_ret (v := .agg #[.func (.func 110) #[] #[], .func (.func 112) #[] #[]]) (by simp [results, Tryz.results73, go_sem, y0, y1]) rfl ⟨rfl, (Chg.refl _ _).alloc _⟩
 by_cases h2 : way = 2
 ·subst h2
  go_enter Tryz.func73, Tryz.ntmps73
  go_wp2
  have hB := Blk.new w #[.func (.func 114) #[] #[], Value.nilFunc] 96
  have y0 := hB.cell 0 (v := .func (.func 114) #[] #[]) rfl
  have y1 := hB.cell 1 (v := Value.nilFunc) rfl
  exact bodyPost_ret (v := .agg #[.func (.func 114) #[] #[], Value.nilFunc]) (by simp [results, Tryz.results73, go_sem, y0, y1]) rfl ⟨rfl, (Chg.refl _ _).alloc _⟩
 by_cases h3 : way = 3
 ·subst h3
  go_enter Tryz.func73, Tryz.ntmps73
  go_wp2
  have hB := Blk.new w #[.func (.func 116) #[] #[], Value.nilFunc] 96
  have y0 := hB.cell 0 (v := .func (.func 116) #[] #[]) rfl
  have y1 := hB.cell 1 (v := Value.nilFunc) rfl
  exact bodyPost_ret (v := .agg #[.func (.func 116) #[] #[], Value.nilFunc]) (by simp [results, Tryz.results73, go_sem, y0, y1]) rfl ⟨rfl, (Chg.refl _ _).alloc _⟩
 by_cases h4 : way = 4
 ·subst h4
  go_enter Tryz.func73, Tryz.ntmps73
  go_wp2
  have hB := Blk.new w #[.func (.func 117) #[] #[], .func (.func 118) #[] #[]] 96
  have y0 := hB.cell 0 (v := .func (.func 117) #[] #[]) rfl
  have y1 := hB.cell 1 (v := .func (.func 118) #[] #[]) rfl
  exact bodyPost_ret (v := .agg #[.func (.func 117) #[] #[], .func (.func 118) #[] #[]]) (by simp [results, Tryz.results73, go_sem, y0, y1]) rfl ⟨rfl, (Chg.refl _ _).alloc _⟩
 have n1 : (way == 1) = false := beq_eq_false_iff_ne.2 h1
 have n2 : (way == 2) = false := beq_eq_false_iff_ne.2 h2
 have n3 : (way == 3) = false := beq_eq_false_iff_ne.2 h3
 have n4 : (way == 4) = false := beq_eq_false_iff_ne.2 h4
 rw [if_neg h1, if_neg h2, if_neg h3, if_neg h4]
 replace h1 := hid h1
 replace h2 := hid h2
 replace h3 := hid h3
 replace h4 := hid h4
 go_enter Tryz.func73, Tryz.ntmps73
 go_wp2
 have hB := Blk.new w #[.func (.func 119) #[] #[], .func (.func 121) #[] #[]] 96
 have y0 := hB.cell 0 (v := .func (.func 119) #[] #[]) rfl
 have y1 := hB.cell 1 (v := .func (.func 121) #[] #[]) rfl
 exact bodyPost_ret (v := .agg #[.func (.func 119) #[] #[], .func (.func 121) #[] #[]]) (by simp [results, Tryz.results73, go_sem, y0, y1]) rfl ⟨rfl, (Chg.refl _ _).alloc _⟩
theorem sums_right {xs : List Cls} {K : Int} {n l : Nat} (h : rightB xs K = true) (hl : xs.length = l) : sumsN xs K n = n + 1 - l := by unfold sumsN; rw [if_pos h, hl]
theorem ways1_any (F : Nat → Prop) (A : Option Addr) (n c : Nat) (xs : List Cls) (K : Int) (s : ByteArray) (size : Int) (w : World) (H : ClsRow F w A n c xs) (hF : ∀ k, F k → k < w.heap.size) (hl : xs.length = n) (hs : s.size ≤ 100000000) (hK0 : 0 ≤ K) :
  Calls Tryz.prog 110 #[.agg #[.slice A n c, .int .i64 K], .string s, .int .i64 size] w fun e w' => GivesSym w.heap.size w' e (findM xs K s) 0 0 ∧ Chg Nothing w w' := by
 have hX := Blk.new w #[.slice A n c, .int .i64 K] 34
 have x0 := hX.cell 0 (v := .slice A n c) rfl
 have x1 := hX.cell 1 (v := .int .i64 K) rfl
 have hw0 := hid ((Chg.refl Nothing w).alloc (.cells #[.slice A n c, .int .i64 K] 34))
 have hN := hid (naiveFind_any F A n c xs K s (w.alloc (.cells #[.slice A n c, .int .i64 K] 34)) (H.chg hw0.out (fun _ _ _ h => h)) (fun k hk => Nat.lt_of_lt_of_le (hF k hk) hw0.out.size) hl hs hK0)
 rw [show fewTo xs K s (sumsN xs K s.size) = findM xs K s from rfl] at hN
 generalize findM xs K s = ys at hN ⊢
 clear hX H hF hl
 go_enter Tryz.func110, Tryz.ntmps110
 go_wp2_with fail
 refine hN.out.mono ?_
 rintro e w2 ⟨⟨A2, c2, rfl, hR⟩, hc2⟩
 have hC2 := hid (hw0.out.trans hc2)
 have hRh := hid (own_low hR hw0.out.size)
 clear hR hc2 x0 x1
 go_wp2
 go_ret3
 exact ⟨⟨A2, c2, rfl, hRh.out⟩, hC2.out⟩
theorem ways3_any (F : Nat → Prop) (A : Option Addr) (n c : Nat) (xs : List Cls) (s : ByteArray) (size : Int) (w : World) (H : ClsRow F w A n c xs) (hl : xs.length = n) (hs : s.size ≤ 100000000) (hL : lettersB xs = true) (hr : rightB xs 0 = true) :
  Calls Tryz.prog 114 #[.agg #[.slice A n c, .int .i64 0], .string s, .int .i64 size] w fun e w' => GivesSym w.heap.size w' e (findM xs 0 s) 0 0 ∧ Chg Nothing w w' := by
 have hX := Blk.new w #[.slice A n c, .int .i64 0] 34
 have x0 := hX.cell 0 (v := .slice A n c) rfl
 have x1 := hX.cell 1 (v := .int .i64 0) rfl
 have hw0 := hid ((Chg.refl Nothing w).alloc (.cells #[.slice A n c, .int .i64 0] 34))
 have hN := hid (zedLeaf_any F A n c xs s (w.alloc (.cells #[.slice A n c, .int .i64 0] 34)) (H.chg hw0.out (fun _ _ _ h => h)) hl hs hL hr)
 have hfe : fewTo xs 0 s (s.size + 1 - n) = findM xs 0 s := by unfold findM; rw [sums_right hr hl]
 rw [hfe] at hN
 generalize findM xs 0 s = ys at hN ⊢
 clear hX H hl hL hr hfe
 go_enter Tryz.func114, Tryz.ntmps114
 go_wp2_with fail
 refine hN.out.mono ?_
 rintro e w2 ⟨⟨A2, c2, rfl, hR⟩, hc2⟩
 have hC2 := hid (hw0.out.trans hc2)
 have hRh := hid (own_low hR hw0.out.size)
 clear hR hc2 x0 x1
 go_wp2
 go_ret3
 exact ⟨⟨A2, c2, rfl, hRh.out⟩, hC2.out⟩
theorem e12_three {xs : List Cls} {K n size : Int} (h : sizedM xs K 5 n size = true) : e12 xs K n size 3 = 0 := by
 unfold sizedM admitsB at h
 unfold e12 amissF
 simp only [Bool.and_eq_true, Bool.or_eq_true, decide_eq_true_eq] at h
 obtain ⟨⟨hr, ha⟩, hs⟩ := h
 have hp : plainB xs = true := by simpa using ha
 rw [if_pos ⟨hr, hp⟩]
 rw [if_neg]
 rintro ⟨h1, h2⟩
 rw [← partsF_freq] at h1
 rw [h2] at hs
 simp at hs
 omega
theorem findM_f12 {xs : List Cls} {K : Int} {s : ByteArray} {size : Int} (h : sizedM xs K 5 s.size size = true) : f12 xs K s size 3 = findM xs K s ∧ y12 xs K s size 3 = countsR xs K s ∧ n12 xs K s size 3 = countW xs 5 s.size size := by
 have h0 := e12_three h
 have hr := (sized_way h).1
 have hy : y12 xs K s size 3 = countsR xs K s := by unfold y12 countsR; rw [if_pos h0, if_pos hr]
 refine ⟨?_, hy, ?_⟩
 ·unfold f12; rw [hy]; exact hits_few xs K s
 ·unfold n12 countW; rw [if_pos h0, partsF_freq]; rfl
theorem ways4_any (F : Nat → Prop) (A : Option Addr) (n c : Nat) (xs : List Cls) (K : Int) (s : ByteArray) (size : Int) (w : World) (H : ClsRow F w A n c xs) (hl : xs.length = n) (hn9 : n ≤ 1000000000) (hs : s.size ≤ 100000000) (hz : sizedM xs K 5 s.size size = true) :
  Calls Tryz.prog 119 #[.agg #[.slice A n c, .int .i64 K], .string s, .int .i64 size] w fun e w' => GivesSym w.heap.size w' e (findM xs K s) (countW xs 5 s.size size) 0 ∧ Chg Nothing w w' := by
 have hX := Blk.new w #[.slice A n c, .int .i64 K] 34
 have x0 := hX.cell 0 (v := .slice A n c) rfl
 have x1 := hX.cell 1 (v := .int .i64 K) rfl
 have hw0 := hid ((Chg.refl Nothing w).alloc (.cells #[.slice A n c, .int .i64 K] 34))
 have hN := hid (splitFind_any F A n c xs K s size 3 (w.alloc (.cells #[.slice A n c, .int .i64 K] 34)) (H.chg hw0.out (fun _ _ _ h => h)) hl hn9 hs)
 obtain ⟨h1, -, h3⟩ := findM_f12 hz
 rw [h1, h3, e12_three hz] at hN
 generalize findM xs K s = ys at hN ⊢
 generalize countW xs 5 s.size size = num at hN ⊢
 clear hX H hl hz h1 h3
 go_enter Tryz.func119, Tryz.ntmps119
 go_wp2_with fail
 refine hN.out.mono ?_
 rintro e w2 ⟨⟨A2, c2, rfl, hR⟩, hc2⟩
 have hC2 := hid (hw0.out.trans hc2)
 have hRh := hid (own_low hR hw0.out.size)
 clear hR hc2 x0 x1
 go_wp2
 go_ret3
 exact ⟨⟨A2, c2, rfl, hRh.out⟩, hC2.out⟩
theorem symFlat {f : FuncId} {args : Array Value} {w : World} {ys : List Int} {num E : Int} (h : Calls Tryz.prog f args w fun e w' => GivesSym w.heap.size w' e ys num E ∧ Chg Nothing w w') : Calls Tryz.prog f args w fun e w' => ∃ A c, e = .returned (.tuple #[.slice A ys.length c, .int .i64 num, .int .i64 E]) ∧ IRow w' w.heap.size A ys.length c ys ∧ Chg Nothing w w' :=
 h.mono (fun e w' ⟨⟨A, c, h1, h2⟩, h3⟩ => ⟨A, c, h1, h2, h3⟩)
theorem admits_two {xs : List Cls} {K n size : Int} (h : sizedM xs K 2 n size = true) : lettersB xs = true ∧ K = 0 := by
 unfold sizedM admitsB at h
 simp only [Bool.and_eq_true, Bool.or_eq_true, decide_eq_true_eq] at h
 have := h.1.2
 simpa using this
theorem admits_three {xs : List Cls} {K n size : Int} (h : sizedM xs K 3 n size = true) : plainB xs = true ∧ K = 0 ∧ sizeBad xs.length n size = false := by
 unfold sizedM admitsB at h
 simp at h
 exact ⟨h.1.2.1, h.1.2.2, h.2⟩
theorem sized_four {xs : List Cls} {K n size : Int} (h : sizedM xs K 4 n size = true) : amiss xs K n size = 0 := by
 have hr := (sized_way h).1
 unfold sizedM at h
 simp at h
 unfold amiss
 rw [if_pos hr, h.2]
 rfl
theorem sym_four {xs : List Cls} {K : Int} {s : ByteArray} {size : Int} (h : sizedM xs K 4 s.size size = true) : symF xs K s size = findM xs K s ∧ symY xs K s size = countsR xs K s ∧ symN xs K s size = countW xs 4 s.size size := by
 have h0 := sized_four h
 have hr := (sized_way h).1
 have hy : symY xs K s size = countsR xs K s := by unfold symY countsR; rw [if_pos h0, if_pos hr]
 refine ⟨?_, hy, ?_⟩
 ·unfold symF; rw [hy]; exact hits_few xs K s
 ·unfold symN countW; rw [if_pos h0]; rfl
theorem matchFind_any (F : Nat → Prop) (A : Option Addr) (n c : Nat) (xs : List Cls) (K way : Int) (s : ByteArray) (size : Int) (w : World) (H : ClsRow F w A n c xs) (hF : ∀ k, F k → k < w.heap.size) (hl : xs.length = n) (hn9 : n ≤ 100) (hs : s.size ≤ 100000000) :
  Calls Tryz.prog 38 #[.int .i64 way, .agg #[.slice A n c, .int .i64 K], .string s, .int .i64 size] w fun e w' => GivesSym w.heap.size w' e (mF xs K way s size) (mN xs K way s.size size) (mE xs K way s.size size) ∧ Chg Nothing w w' := by
 have hX := hid (Blk.new w #[.slice A n c, .int .i64 K] 34)
 have x0 := hX.out.cell 0 (v := .slice A n c) rfl
 have x1 := hX.out.cell 1 (v := .int .i64 K) rfl
 have hw0 := hid ((Chg.refl Nothing w).alloc (.cells #[.slice A n c, .int .i64 K] 34))
 have hHH := hid (fun (w' : World) (hc : Chg Nothing w w') => H.chg hc (fun _ _ _ h => h))
 have hCk := hid (fun (w' : World) (hc : Chg Nothing w w') => matchCheck_any F A n c xs K way s size w' (hHH.out _ hc) hl (by omega) (by omega))
 have hFl := hid (fun (w' : World) (hc : Chg Nothing w w') => (show ∀ k, F k → k < w'.heap.size from fun k hk => Nat.lt_of_lt_of_le (hF k hk) hc.size))
 have hmx := H.max
 have hle := H.le
 by_cases hz : mE xs K way s.size size = 0
 ·have hmF : mF xs K way s size = findM xs K s := by unfold mF; rw [if_pos hz]
  have hmN : mN xs K way s.size size = countW xs way s.size size := by unfold mN; rw [if_pos hz]
  rw [hmF, hmN, hz]
  rw [hz] at hCk
  replace hz := mE_zero.1 hz
  obtain ⟨hr, hway⟩ := sized_way hz
  have hK0 : 0 ≤ K := by unfold rightB at hr; simp at hr; omega
  clear hmF hmN H
  rcases hway with rfl | rfl | rfl | rfl | rfl
  ·have hFn := hid (fun (w' : World) (hc : Chg Nothing w w') => ways1_any F A n c xs K s size w' (hHH.out _ hc) (hFl.out _ hc) hl hs hK0)
   have hcw : countW xs 1 s.size size = 0 := rfl
   rw [hcw]
   generalize findM xs K s = ys at hFn ⊢
   have hWy := hid (fun w => (show Calls Tryz.prog 73 #[.int .i64 1] w fun e w' => e = .returned (.agg #[.func (.func 110) #[] #[], .func (.func 112) #[] #[]]) ∧ Chg Nothing w w' from matchWays_any 1 w))
   have hfd : ∀ W, (Instr.field 96 (.agg #[.func (.func 110) #[] #[], .func (.func 112) #[] #[]]) 0).run Tryz.prog W = .ok (.func (.func 110) #[] #[]) W := fun W => by kernel_rfl
   clear hz hr hK0 hl hF
   go_enter Tryz.func38, Tryz.ntmps38
   go_wp2_with fail
   refine (hCk.out _ hw0.out).mono ?_
   rintro e w1 ⟨rfl, hc1⟩
   have hX1 := hid (hX.out.chg hc1 id)
   have hC1 := hid (hw0.out.trans hc1)
   clear hc1 x0 x1
   have hS := hid (fun (w' : World) (hc : Chg Nothing w1 w') => (⟨(hX1.out.chg hc id).cell 0 rfl, (hX1.out.chg hc id).cell 1 rfl⟩ : w'.cell? ⟨w.heap.size, 0, none⟩ = some (.slice A n c) ∧ w'.cell? ⟨w.heap.size, 1, none⟩ = some (.int .i64 K)))
   have hcur := hid ((Chg.refl Nothing w1).drew)
   go_wp2_with fail
   go_region_held3 (fun w' => w'.cell? ⟨w.heap.size, 0, none⟩ = some (.slice A n c) ∧ w'.cell? ⟨w.heap.size, 1, none⟩ = some (.int .i64 K))
    (exact hS.out _ hcur.out)
    (first
    | (go_at_call 73; with_reducible refine (hWy.out _).mono ?_; rintro e wW ⟨rfl, hcW⟩; replace hcur := hid (hcur.out.trans hcW); replace hcW := hid hcW)
    | (go_at_call 110; with_reducible refine (symFlat (hFn.out _ (hC1.out.trans hcur.out))).mono ?_; rintro e wF ⟨AF, cF, rfl, hRF, hcF⟩; replace hRF := hid (own_low hRF (hC1.out.trans hcur.out).size); replace hcur := hid (hcur.out.trans hcF); replace hcF := hid hcF))
   all_goals
    have hC2 := hid (hC1.out.trans hcur.out)
    clear hS hcur
    go_wp2
    go_ret3
    exact ⟨⟨AF, cF, rfl, hRF.out⟩, hC2.out⟩
  ·obtain ⟨hLp, rfl⟩ := admits_two hz
   have hFn := hid (fun (w' : World) (hc : Chg Nothing w w') => ways3_any F A n c xs s size w' (hHH.out _ hc) hl hs hLp hr)
   have hcw : countW xs 2 s.size size = 0 := rfl
   rw [hcw]
   generalize findM xs 0 s = ys at hFn ⊢
   have hWy := hid (fun w => (show Calls Tryz.prog 73 #[.int .i64 2] w fun e w' => e = .returned (.agg #[.func (.func 114) #[] #[], Value.nilFunc]) ∧ Chg Nothing w w' from matchWays_any 2 w))
   have hfd : ∀ W, (Instr.field 96 (.agg #[.func (.func 114) #[] #[], Value.nilFunc]) 0).run Tryz.prog W = .ok (.func (.func 114) #[] #[]) W := fun W => by kernel_rfl
   clear hz hr hK0 hl hF hLp
   go_enter Tryz.func38, Tryz.ntmps38
   go_wp2_with fail
   refine (hCk.out _ hw0.out).mono ?_
   rintro e w1 ⟨rfl, hc1⟩
   have hX1 := hid (hX.out.chg hc1 id)
   have hC1 := hid (hw0.out.trans hc1)
   clear hc1 x0 x1
   have hS := hid (fun (w' : World) (hc : Chg Nothing w1 w') => (⟨(hX1.out.chg hc id).cell 0 rfl, (hX1.out.chg hc id).cell 1 rfl⟩ : w'.cell? ⟨w.heap.size, 0, none⟩ = some (.slice A n c) ∧ w'.cell? ⟨w.heap.size, 1, none⟩ = some (.int .i64 0)))
   have hcur := hid ((Chg.refl Nothing w1).drew)
   go_wp2_with fail
   go_region_held3 (fun w' => w'.cell? ⟨w.heap.size, 0, none⟩ = some (.slice A n c) ∧ w'.cell? ⟨w.heap.size, 1, none⟩ = some (.int .i64 0))
    (exact hS.out _ hcur.out)
    (first
    | (go_at_call 73; with_reducible refine (hWy.out _).mono ?_; rintro e wW ⟨rfl, hcW⟩; replace hcur := hid (hcur.out.trans hcW); replace hcW := hid hcW)
    | (go_at_call 114; with_reducible refine (symFlat (hFn.out _ (hC1.out.trans hcur.out))).mono ?_; rintro e wF ⟨AF, cF, rfl, hRF, hcF⟩; replace hRF := hid (own_low hRF (hC1.out.trans hcur.out).size); replace hcur := hid (hcur.out.trans hcF); replace hcF := hid hcF))
   all_goals
    have hC2 := hid (hC1.out.trans hcur.out)
    clear hS hcur
    go_wp2
    go_ret3
    exact ⟨⟨AF, cF, rfl, hRF.out⟩, hC2.out⟩
  ·obtain ⟨hLp1, rfl, hLp2⟩ := admits_three hz
   have hLp := And.intro hLp1 hLp2
   have hFn := hid (fun (w' : World) (hc : Chg Nothing w w') => wildFind_any F A n c xs s size w' (hHH.out _ hc) hl hs hr hLp.1 (hl ▸ hLp.2))
   rw [show fewTo xs 0 s (s.size + 1 - n) = findM xs 0 s from by unfold findM; rw [sums_right hr hl], show 2 * countS n s.size size = countW xs 3 s.size size from by unfold countW; rw [hl]; rfl] at hFn
   generalize findM xs 0 s = ys at hFn ⊢
   generalize countW xs 3 s.size size = num at hFn ⊢
   have hWy := hid (fun w => (show Calls Tryz.prog 73 #[.int .i64 3] w fun e w' => e = .returned (.agg #[.func (.func 116) #[] #[], Value.nilFunc]) ∧ Chg Nothing w w' from matchWays_any 3 w))
   have hfd : ∀ W, (Instr.field 96 (.agg #[.func (.func 116) #[] #[], Value.nilFunc]) 0).run Tryz.prog W = .ok (.func (.func 116) #[] #[]) W := fun W => by kernel_rfl
   clear hz hr hK0 hl hF hLp hLp1 hLp2
   go_enter Tryz.func38, Tryz.ntmps38
   go_wp2_with fail
   refine (hCk.out _ hw0.out).mono ?_
   rintro e w1 ⟨rfl, hc1⟩
   have hX1 := hid (hX.out.chg hc1 id)
   have hC1 := hid (hw0.out.trans hc1)
   clear hc1 x0 x1
   have hS := hid (fun (w' : World) (hc : Chg Nothing w1 w') => (⟨(hX1.out.chg hc id).cell 0 rfl, (hX1.out.chg hc id).cell 1 rfl⟩ : w'.cell? ⟨w.heap.size, 0, none⟩ = some (.slice A n c) ∧ w'.cell? ⟨w.heap.size, 1, none⟩ = some (.int .i64 0)))
   have hcur := hid ((Chg.refl Nothing w1).drew)
   go_wp2_with fail
   go_region_held3 (fun w' => w'.cell? ⟨w.heap.size, 0, none⟩ = some (.slice A n c) ∧ w'.cell? ⟨w.heap.size, 1, none⟩ = some (.int .i64 0))
    (exact hS.out _ hcur.out)
    (first
    | (go_at_call 73; with_reducible refine (hWy.out _).mono ?_; rintro e wW ⟨rfl, hcW⟩; replace hcur := hid (hcur.out.trans hcW); replace hcW := hid hcW)
    | (go_at_call 116; with_reducible refine (symFlat (hFn.out _ (hC1.out.trans hcur.out))).mono ?_; rintro e wF ⟨AF, cF, rfl, hRF, hcF⟩; replace hRF := hid (own_low hRF (hC1.out.trans hcur.out).size); replace hcur := hid (hcur.out.trans hcF); replace hcF := hid hcF))
   all_goals
    have hC2 := hid (hC1.out.trans hcur.out)
    clear hS hcur
    go_wp2
    go_ret3
    exact ⟨⟨AF, cF, rfl, hRF.out⟩, hC2.out⟩
  ·have hFn := hid (fun (w' : World) (hc : Chg Nothing w w') => symbFind_any F A n c xs K s size w' (hHH.out _ hc) (hFl.out _ hc) hl hs)
   obtain ⟨q1, -, q3⟩ := sym_four hz
   rw [q1, q3, sized_four hz] at hFn
   generalize findM xs K s = ys at hFn ⊢
   generalize countW xs 4 s.size size = num at hFn ⊢
   have hWy := hid (fun w => (show Calls Tryz.prog 73 #[.int .i64 4] w fun e w' => e = .returned (.agg #[.func (.func 117) #[] #[], .func (.func 118) #[] #[]]) ∧ Chg Nothing w w' from matchWays_any 4 w))
   have hfd : ∀ W, (Instr.field 96 (.agg #[.func (.func 117) #[] #[], .func (.func 118) #[] #[]]) 0).run Tryz.prog W = .ok (.func (.func 117) #[] #[]) W := fun W => by kernel_rfl
   clear hz hr hK0 hl hF q1 q3
   go_enter Tryz.func38, Tryz.ntmps38
   go_wp2_with fail
   refine (hCk.out _ hw0.out).mono ?_
   rintro e w1 ⟨rfl, hc1⟩
   have hX1 := hid (hX.out.chg hc1 id)
   have hC1 := hid (hw0.out.trans hc1)
   clear hc1 x0 x1
   have hS := hid (fun (w' : World) (hc : Chg Nothing w1 w') => (⟨(hX1.out.chg hc id).cell 0 rfl, (hX1.out.chg hc id).cell 1 rfl⟩ : w'.cell? ⟨w.heap.size, 0, none⟩ = some (.slice A n c) ∧ w'.cell? ⟨w.heap.size, 1, none⟩ = some (.int .i64 K)))
   have hcur := hid ((Chg.refl Nothing w1).drew)
   go_wp2_with fail
   go_region_held3 (fun w' => w'.cell? ⟨w.heap.size, 0, none⟩ = some (.slice A n c) ∧ w'.cell? ⟨w.heap.size, 1, none⟩ = some (.int .i64 K))
    (exact hS.out _ hcur.out)
    (first
    | (go_at_call 73; with_reducible refine (hWy.out _).mono ?_; rintro e wW ⟨rfl, hcW⟩; replace hcur := hid (hcur.out.trans hcW); replace hcW := hid hcW)
    | (go_at_call 117; with_reducible refine (symFlat (hFn.out _ (hC1.out.trans hcur.out))).mono ?_; rintro e wF ⟨AF, cF, rfl, hRF, hcF⟩; replace hRF := hid (own_low hRF (hC1.out.trans hcur.out).size); replace hcur := hid (hcur.out.trans hcF); replace hcF := hid hcF))
   all_goals
    have hC2 := hid (hC1.out.trans hcur.out)
    clear hS hcur
    go_wp2
    go_ret3
    exact ⟨⟨AF, cF, rfl, hRF.out⟩, hC2.out⟩
  ·have hFn := hid (fun (w' : World) (hc : Chg Nothing w w') => ways4_any F A n c xs K s size w' (hHH.out _ hc) hl (by omega) hs hz)
   generalize findM xs K s = ys at hFn ⊢
   generalize countW xs 5 s.size size = num at hFn ⊢
   have hWy := hid (fun w => (show Calls Tryz.prog 73 #[.int .i64 5] w fun e w' => e = .returned (.agg #[.func (.func 119) #[] #[], .func (.func 121) #[] #[]]) ∧ Chg Nothing w w' from matchWays_any 5 w))
   have hfd : ∀ W, (Instr.field 96 (.agg #[.func (.func 119) #[] #[], .func (.func 121) #[] #[]]) 0).run Tryz.prog W = .ok (.func (.func 119) #[] #[]) W := fun W => by kernel_rfl
   clear hz hr hK0 hl hF
   go_enter Tryz.func38, Tryz.ntmps38
   go_wp2_with fail
   refine (hCk.out _ hw0.out).mono ?_
   rintro e w1 ⟨rfl, hc1⟩
   have hX1 := hid (hX.out.chg hc1 id)
   have hC1 := hid (hw0.out.trans hc1)
   clear hc1 x0 x1
   have hS := hid (fun (w' : World) (hc : Chg Nothing w1 w') => (⟨(hX1.out.chg hc id).cell 0 rfl, (hX1.out.chg hc id).cell 1 rfl⟩ : w'.cell? ⟨w.heap.size, 0, none⟩ = some (.slice A n c) ∧ w'.cell? ⟨w.heap.size, 1, none⟩ = some (.int .i64 K)))
   have hcur := hid ((Chg.refl Nothing w1).drew)
   go_wp2_with fail
   go_region_held3 (fun w' => w'.cell? ⟨w.heap.size, 0, none⟩ = some (.slice A n c) ∧ w'.cell? ⟨w.heap.size, 1, none⟩ = some (.int .i64 K))
    (exact hS.out _ hcur.out)
    (first
    | (go_at_call 73; with_reducible refine (hWy.out _).mono ?_; rintro e wW ⟨rfl, hcW⟩; replace hcur := hid (hcur.out.trans hcW); replace hcW := hid hcW)
    | (go_at_call 119; with_reducible refine (symFlat (hFn.out _ (hC1.out.trans hcur.out))).mono ?_; rintro e wF ⟨AF, cF, rfl, hRF, hcF⟩; replace hRF := hid (own_low hRF (hC1.out.trans hcur.out).size); replace hcur := hid (hcur.out.trans hcF); replace hcF := hid hcF))
   all_goals
    have hC2 := hid (hC1.out.trans hcur.out)
    clear hS hcur
    go_wp2
    go_ret3
    exact ⟨⟨AF, cF, rfl, hRF.out⟩, hC2.out⟩
 ·have hmF : mF xs K way s size = [] := by unfold mF; rw [if_neg hz]
  have hmN : mN xs K way s.size size = 0 := by unfold mN; rw [if_neg hz]
  rw [hmF, hmN]
  generalize mE xs K way s.size size = E at hCk hz ⊢
  have hb : (E == 0) = false := beq_eq_false_iff_ne.2 hz
  clear H hmF hmN hl hF
  go_enter Tryz.func38, Tryz.ntmps38
  go_wp2_with fail
  refine (hCk.out _ hw0.out).mono ?_
  rintro e w1 ⟨rfl, hc1⟩
  have hC1 := hid (hw0.out.trans hc1)
  clear hc1 x0 x1
  go_wp2
  go_ret3
  exact ⟨⟨none, 0, rfl, World.ownsRow_nil _ _ _ _⟩, hC1.out⟩
theorem refFind17_any (F : Nat → Prop) (A : Option Addr) (n c : Nat) (xs : List Cls) (K way : Int) (s : ByteArray) (size : Int) (w : World) (H : ClsRow F w A n c xs) (hl : xs.length = n) (hn9 : n ≤ 100) (hs : s.size ≤ 100000000) :
  Calls Tryz.prog 39 #[.int .i64 way, .agg #[.slice A n c, .int .i64 K], .string s, .int .i64 size] w fun e w' => GivesSym w.heap.size w' e (mF xs K way s size) (mN xs K way s.size size) (mE xs K way s.size size) ∧ Chg Nothing w w' := by
 have hX := hid (Blk.new w #[.slice A n c, .int .i64 K] 34)
 have x0 := hX.out.cell 0 (v := .slice A n c) rfl
 have x1 := hX.out.cell 1 (v := .int .i64 K) rfl
 have hw0 := hid ((Chg.refl Nothing w).alloc (.cells #[.slice A n c, .int .i64 K] 34))
 have hCk := hid (fun (w' : World) (hc : Chg Nothing w w') => refCheck17_any F A n c xs K way s.size size w' (H.chg hc (fun _ _ _ h => h)) hl (by omega))
 have hCt := hid (fun (w' : World) (hc : Chg Nothing w w') => refCount17_any F A n c xs K way s.size size w' (H.chg hc (fun _ _ _ h => h)) hl hn9 (by omega))
 have hFn := hid (fun (w' : World) (hc : Chg Nothing w w') => (show Calls Tryz.prog 75 #[.agg #[.slice A n c, .int .i64 K], .string s] w' fun e w'' => ∃ A' c', e = .returned (.slice A' (findM xs K s).length c') ∧ IRow w'' w'.heap.size A' (findM xs K s).length c' (findM xs K s) ∧ Chg Nothing w' w'' from hits_few xs K s ▸ (refFind8_any F A n c xs K s w' (H.chg hc (fun _ _ _ h => h)) hl hs).mono (fun e w'' ⟨⟨A', c', h1, h2⟩, h3⟩ => ⟨A', c', h1, h2, h3⟩)))
 have hmx := H.max
 have hle := H.le
 clear H hl
 by_cases hz : mE xs K way s.size size = 0
 ·have hmF : mF xs K way s size = findM xs K s := by unfold mF; rw [if_pos hz]
  have hmN : mN xs K way s.size size = countW xs way s.size size := by unfold mN; rw [if_pos hz]
  rw [hmF, hmN, hz]
  rw [hz] at hCk
  clear hmF hmN hz
  generalize findM xs K s = ys at hFn ⊢
  generalize countW xs way s.size size = num at hCt ⊢
  go_enter Tryz.func39, Tryz.ntmps39
  go_wp2_with fail
  refine (hCk.out _ hw0.out).mono ?_
  rintro e w1 ⟨rfl, hc1⟩
  have hX1 := hid (hX.out.chg hc1 id)
  have hC1 := hid (hw0.out.trans hc1)
  clear hc1 x0 x1
  have hS := hid (fun (w' : World) (hc : Chg Nothing w1 w') => (⟨(hX1.out.chg hc id).cell 0 rfl, (hX1.out.chg hc id).cell 1 rfl⟩ : w'.cell? ⟨w.heap.size, 0, none⟩ = some (.slice A n c) ∧ w'.cell? ⟨w.heap.size, 1, none⟩ = some (.int .i64 K)))
  have hcur := hid ((Chg.refl Nothing w1).drew)
  go_wp2_with fail
  go_region_held3 (fun w' => w'.cell? ⟨w.heap.size, 0, none⟩ = some (.slice A n c) ∧ w'.cell? ⟨w.heap.size, 1, none⟩ = some (.int .i64 K))
   (exact hS.out _ hcur.out)
   (first
   | (go_at_call 75; with_reducible refine (hFn.out _ (hC1.out.trans hcur.out)).mono ?_; rintro e wF ⟨AF, cF, rfl, hRF, hcF⟩; replace hRF := hid (own_low hRF (hC1.out.trans hcur.out).size); replace hcur := hid (hcur.out.trans hcF); replace hcF := hid hcF)
   | (go_at_call 54; with_reducible refine (hCt.out _ (hC1.out.trans hcur.out)).mono ?_; rintro e wC ⟨rfl, hcC⟩; replace hcur := hid (hcur.out.trans hcC); try replace hRF := hid (own_chg hRF.out hcC (fun _ _ h => h)); replace hcC := hid hcC))
  all_goals
   have hC2 := hid (hC1.out.trans hcur.out)
   clear hS hcur
   go_wp2
   go_ret3
   exact ⟨⟨AF, cF, rfl, hRF.out⟩, hC2.out⟩
 ·have hmF : mF xs K way s size = [] := by unfold mF; rw [if_neg hz]
  have hmN : mN xs K way s.size size = 0 := by unfold mN; rw [if_neg hz]
  rw [hmF, hmN]
  generalize mE xs K way s.size size = E at hCk hz ⊢
  have hb : (E == 0) = false := beq_eq_false_iff_ne.2 hz
  clear hmF hmN
  go_enter Tryz.func39, Tryz.ntmps39
  go_wp2_with fail
  refine (hCk.out _ hw0.out).mono ?_
  rintro e w1 ⟨rfl, hc1⟩
  have hC1 := hid (hw0.out.trans hc1)
  clear hc1 x0 x1
  go_wp2
  go_ret3
  exact ⟨⟨none, 0, rfl, World.ownsRow_nil _ _ _ _⟩, hC1.out⟩
end Go.Proofs.YtoelilejohfglaaGreat
