/- Joined texts: LeafA PrnA PrnB PrnC PrnD PrnE PrnF PrnG PrnH PrnI PrnJ PrnK. -/
import Derived.Test.YtllblpiakijpaaaBunE
import Derived.Test.YtllblpiakijpaaaBunC
import Derived.Test.YtllblpiakijpaaaBunA
import Derived.Laws.BytesArg
import Derived.Deep.DrawnRows
import Derived.Test.YtllblpiakijpaaaBunD
import Derived.Deep.DeepCutAuto
/- Layer 7: slices.Contains over classes; leaf.Right. -/
namespace Go.Proofs.Ytllblpiakijpaaa
open Go.RowKit
set_option linter.unusedVariables false
attribute [local go_sem ↓] Go.wp_at_zero Go.wp_at_succ
abbrev ClsRow (F : Nat → Prop) (w : World) (A : Option Addr) (n c : Nat) (xs : List Cls) : Prop := RowAt 4 F w A n c (xs.flatMap clsL)
theorem clsL_size (x : Cls) : (clsL x).length = 4 := rfl
/-- The cells of a class of a row. -/
theorem ClsRow.four {F : Nat → Prop} {w : World} {A : Option Addr} {n c : Nat} {xs : List Cls} (h : ClsRow F w A n c xs) (hl : xs.length = n) {k : Nat} (hk : k < n) :
    ∃ g o, A = some ⟨g, o, none⟩ ∧ F g ∧ g < w.heap.size ∧ w.cell? ⟨g, o + k * 4, none⟩ = some (.int .u64 (wd (xs.getD k 0) 0)) ∧ w.cell? ⟨g, o + k * 4 + 1, none⟩ = some (.int .u64 (wd (xs.getD k 0) 1)) ∧ w.cell? ⟨g, o + k * 4 + 2, none⟩ = some (.int .u64 (wd (xs.getD k 0) 2)) ∧ w.cell? ⟨g, o + k * 4 + 3, none⟩ = some (.int .u64 (wd (xs.getD k 0) 3)) := by
  obtain ⟨g, o, e, hF, hlt, hc⟩ := h.cell hk (by decide)
  have c0 := hc 0 (by decide)
  have c1 := hc 1 (by decide)
  have c2 := hc 2 (by decide)
  have c3 := hc 3 (by decide)
  rw [flat_getD clsL 4 clsL_size 0 xs k _ (by omega) (by decide)] at c0 c1 c2 c3
  exact ⟨g, o, e, hF, hlt, c0, c1, c2, c3⟩
def IxInv (v : Cls) (xs : List Cls) (w : World) (iv : Value) (wr : World) : Prop := ∃ k : Nat, k ≤ xs.length ∧ iv = .int .i64 k ∧ Hid (∀ j, j < k → xs.getD j 0 ≠ v) ∧ CBox wr w.heap.size v ∧ Chg Nothing w wr
def ixS (v : Cls) (xs : List Cls) (r : Int) : Prop := (r = -1 ∧ v ∉ xs) ∨ (0 ≤ r ∧ v ∈ xs)
def IxAns (v : Cls) (xs : List Cls) (w : World) (e : Ending) (w' : World) : Prop := ∃ r : Int, e = .returned (.int .i64 r) ∧ ixS v xs r ∧ Chg Nothing w w'
set_option maxHeartbeats 4000000 in
theorem sIndex_any (F : Nat → Prop) (A : Option Addr) (n c : Nat) (xs : List Cls) (v : Cls) (w : World) (H : ClsRow F w A n c xs) (hl : xs.length = n) :
    Calls Try.prog 93 #[.slice A n c, .agg #[.int .u64 (wd v 0), .int .u64 (wd v 1), .int .u64 (wd v 2), .int .u64 (wd v 3)]] w (IxAns v xs w) := by
  have HH := hid H
  have hlh := hid hl
  have hmx := H.max
  have hle := H.le
  clear H hl
  go_enter Try.func93, Try.ntmps93
  go_wp2_with fail
  go_loopw [8] (fun iv wr => IxInv v xs w iv wr) (fun iv _ => n - (intOf iv).toNat)
  case atStart => exact ⟨0, Nat.zero_le _, rfl, hid (fun j h => by omega), Blk.new w _ _, (Chg.refl _ _).alloc _⟩
  case round =>
    obtain ⟨k, hk, rfl, hall, hbx, hchg⟩ := hrel
    rw [hlh.out] at hk
    rcases Nat.lt_or_ge k n with hkn | hkn
    · obtain ⟨g, o, rfl, -, hgl, c0, c1, c2, c3⟩ := ClsRow.four (HH.out.chg hchg (fun _ _ _ h => h)) hlh.out hkn
      have HBx := hid hbx
      obtain ⟨r0, r1, r2, r3, f0, f1, f2, f3, hlt⟩ := CBox.at_ hbx
      clear hbx
      have hmem := hid (show xs.getD k 0 ∈ xs from by
        rw [List.getD_eq_getElem?_getD, List.getElem?_eq_getElem (by rw [hlh.out]; exact hkn)]
        exact List.getElem_mem _)
      have hgk : ∃ y, y = xs.getD k 0 := ⟨_, rfl⟩
      obtain ⟨y, hy⟩ := hgk
      rw [← hy] at c0 c1 c2 c3 hmem
      replace hy := hid hy
      have hq := eq_class v y
      have hk0 : (0 : Int) ≤ (k : Int) := by omega
      have hkn' : (k : Int) < (n : Int) := by omega
      by_cases he : v = y
      · rw [decide_eq_true he] at hq
        unfold encC at hq
        replace he := hid he
        go_wp2_with fail
        go_quiet (fail)
        go_wp2
        go_ret
        exact ⟨_, rfl, .inr ⟨hk0, by rw [he.out]; exact hmem.out⟩, hchg.drewN _⟩
      · rw [decide_eq_false he] at hq
        unfold encC at hq
        replace he := hid he
        go_wp2_with fail
        go_quiet (fail)
        go_wp2
        go_roundw
        case rel =>
          refine ⟨k + 1, by rw [hlh.out]; exact hkn, by go_num, hid (fun j hj => ?_), Blk.drewN HBx.out _, hchg.drewN _⟩
          rcases Nat.lt_or_ge j k with h | h
          · exact hall.out j h
          · have e : j = k := by omega
            rw [e, ← hy.out]; exact fun h => he.out h.symm
        case measure => simp [intOf]; omega
    · have hd : decide ((k : Int) < (n : Int)) = false := decide_eq_false (by omega)
      have hno : Hid (v ∉ xs) := hid (fun h => by
        obtain ⟨j, hj, e⟩ := List.getElem_of_mem h
        exact hall.out j (by rw [hlh.out] at hj; omega) (by rw [List.getD_eq_getElem?_getD, List.getElem?_eq_getElem hj]; exact e))
      clear hbx
      go_wp2
      go_ret
      exact ⟨-1, rfl, .inl ⟨rfl, hno.out⟩, hchg⟩
theorem ixS_has {v : Cls} {xs : List Cls} {r : Int} (h : ixS v xs r) : decide (0 ≤ r) = decide (v ∈ xs) := by
  rcases h with ⟨rfl, h⟩ | ⟨h0, h⟩
  · simp [h]
  · simp [h, h0]
set_option maxHeartbeats 4000000 in
theorem sContains_any (F : Nat → Prop) (A : Option Addr) (n c : Nat) (xs : List Cls) (v : Cls) (w : World) (H : ClsRow F w A n c xs) (hl : xs.length = n) :
    Calls Try.prog 79 #[.slice A n c, .agg #[.int .u64 (wd v 0), .int .u64 (wd v 1), .int .u64 (wd v 2), .int .u64 (wd v 3)]] w fun e w' => e = .returned (.bool (decide (v ∈ xs))) ∧ Chg Nothing w w' := by
  have hX := Blk.new w (cellsC v) 70
  obtain ⟨r0, r1, r2, r3, f0, f1, f2, f3, hlt⟩ := CBox.at_ hX
  have H1 := hid (H.chg ((Chg.refl Nothing w).alloc (.cells (cellsC v) 70)) (fun _ _ _ h => h))
  have hlh := hid hl
  clear H hl hX
  go_enter Try.func79, Try.ntmps79
  go_wp2_with fail
  refine (sIndex_any F A n c xs v _ H1.out hlh.out).mono ?_
  rintro e w1 ⟨r, rfl, hr, hc⟩
  have hb := hid (ixS_has hr)
  clear hr
  go_wp2
  go_ret
  exact ⟨by rw [← hb.out]; rfl, ((Chg.refl Nothing w).alloc _).trans hc⟩
def rightB (xs : List Cls) (K : Int) : Bool := decide (1 ≤ xs.length ∧ xs.length ≤ 64 ∧ 0 ∉ xs ∧ 0 ≤ K ∧ K ≤ 64)
set_option maxHeartbeats 4000000 in
set_option maxRecDepth 100000 in
theorem leafRight_any (F : Nat → Prop) (A : Option Addr) (n c : Nat) (xs : List Cls) (K : Int) (w : World) (H : ClsRow F w A n c xs) (hl : xs.length = n) :
    Calls Try.prog 56 #[.agg #[.slice A n c, .int .i64 K]] w fun e w' => e = .returned (.bool (rightB xs K)) ∧ Chg Nothing w w' := by
  have hX := Blk.new w #[.slice A n c, .int .i64 K] 36
  have HX := hid hX
  have x0 := hX.cell 0 rfl
  have x1 := hX.cell 1 rfl
  have hlx := hX.lt
  have H1 := hid (H.chg ((Chg.refl Nothing w).alloc (.cells #[.slice A n c, .int .i64 K] 36)) (fun _ _ _ h => h))
  have hlh := hid hl
  have hZ := hid (fun w h => by have := sContains_any F A n c xs 0 w h hlh.out; simp only [wd_zero] at this; exact this : ∀ w, ClsRow F w A n c xs → Calls Try.prog 79 #[.slice A n c, .agg #[.int .u64 0, .int .u64 0, .int .u64 0, .int .u64 0]] w fun e w' => e = .returned (.bool (decide ((0 : Cls) ∈ xs))) ∧ Chg Nothing w w')
  have hrb : rightB xs K = decide (1 ≤ n ∧ n ≤ 64 ∧ (0 : Cls) ∉ xs ∧ 0 ≤ K ∧ K ≤ 64) := by unfold rightB; rw [hl]
  clear H hl hX
  have hcase : ¬ (1 ≤ n) ∨ ((1 ≤ n) ∧ ¬ (n ≤ 64)) ∨ ((1 ≤ n) ∧ (n ≤ 64)) := by omega
  obtain ⟨z, hz⟩ : ∃ z, z = decide ((0 : Cls) ∈ xs) := ⟨_, rfl⟩
  rw [← hz] at hZ
  have hb : rightB xs K = (decide (1 ≤ n) && decide (n ≤ 64) && !z && decide (0 ≤ K) && decide (K ≤ 64)) := by
    rw [hrb, hz, Bool.eq_iff_iff]; simp; constructor
    · rintro ⟨h1, h2, h3, h4, h5⟩; exact ⟨⟨⟨⟨h1, h2⟩, h3⟩, h4⟩, h5⟩
    · rintro ⟨⟨⟨⟨h1, h2⟩, h3⟩, h4⟩, h5⟩; exact ⟨h1, h2, h3, h4, h5⟩
  replace hb := hid hb
  replace hz := hid hz
  clear hrb
  rcases hcase with h1 | ⟨h1, h2⟩ | ⟨h1, h2⟩
  · have hd : decide ((1 : Int) ≤ (n : Int)) = false := decide_eq_false (by omega)
    go_enter Try.func56, Try.ntmps56
    go_wp2_with fail
    refine (hZ.out _ H1.out).mono ?_
    rintro e w1 ⟨rfl, hc⟩
    have y0 := (hc.cells.1 _ _ hlx).trans x0
    have hch := hid (((Chg.refl Nothing w).alloc (.cells #[.slice A n c, .int .i64 K] 36)).trans hc)
    clear hc
    go_wp2
    go_ret
    exact ⟨by rw [hb.out, show decide (1 ≤ n) = false from decide_eq_false h1]; rfl, hch.out⟩
  · have hd : decide ((1 : Int) ≤ (n : Int)) = true := decide_eq_true (by omega)
    have hd2 : decide ((n : Int) ≤ 64) = false := decide_eq_false (by omega)
    go_enter Try.func56, Try.ntmps56
    go_wp2_with fail
    refine (hZ.out _ H1.out).mono ?_
    rintro e w1 ⟨rfl, hc⟩
    have y0 := (hc.cells.1 _ _ hlx).trans x0
    have hch := hid (((Chg.refl Nothing w).alloc (.cells #[.slice A n c, .int .i64 K] 36)).trans hc)
    clear hc
    go_wp2
    go_ret
    exact ⟨by rw [hb.out, show decide (n ≤ 64) = false from decide_eq_false h2]; simp, hch.out⟩
  · have hd : decide ((1 : Int) ≤ (n : Int)) = true := decide_eq_true (by omega)
    have hd2 : decide ((n : Int) ≤ 64) = true := decide_eq_true (by omega)
    have hb2 := hid (show rightB xs K = (!z && decide (0 ≤ K) && decide (K ≤ 64)) from by rw [hb.out, show decide (1 ≤ n) = true from decide_eq_true h1, show decide (n ≤ 64) = true from decide_eq_true h2]; rfl)
    go_enter Try.func56, Try.ntmps56
    go_wp2_with fail
    refine (hZ.out _ H1.out).mono ?_
    rintro e w1 ⟨rfl, hc⟩
    have y0 := (hc.cells.1 _ _ hlx).trans x0
    have y1 := (hc.cells.1 _ _ hlx).trans x1
    have hch := hid (((Chg.refl Nothing w).alloc (.cells #[.slice A n c, .int .i64 K] 36)).trans hc)
    clear hc
    cases z
    all_goals
      go_wp2
      all_goals
        go_ret
        refine ⟨?_, hch.out⟩
        rw [hb2.out]
        first | rfl | (simp [*]; done) | (simp [*]; omega) | (simp; omega)
end Go.Proofs.Ytllblpiakijpaaa

/- Layer 13: printing: digit, written. -/
namespace Go.Proofs.Ytllblpiakijpaaa
open Go.RowKit
set_option linter.unusedVariables false
attribute [local go_sem ↓] Go.wp_at_zero Go.wp_at_succ
def digS (n : Nat) : ByteArray := hexs.extract n (n + 1)
theorem refDigit_any (n : Nat) (w : World) (hn : n < 16) :
    Calls Try.prog 84 #[.int .i64 n] w fun e w' => e = .returned (.string (digS n)) ∧ w' = w := by
  go_enter Try.func84, Try.ntmps84
  go_wp2
  go_ret
  exact ⟨rfl, rfl⟩
def byteS (b : Nat) : ByteArray := strOfNums [(b : Int)]
def writtenS (b : Nat) (ap : ByteArray) : ByteArray :=
  if signB b = false then (⟨#[92, 120]⟩ ++ digS (b / 16)) ++ digS (b % 16) else if inS ap b = true then ⟨#[92]⟩ ++ byteS b else byteS b
theorem conv_one (w : World) (b : Nat) : (convert 111 9 (.slice (some ⟨w.heap.size, 0, none⟩) 1 1)).run Try.prog (w.alloc (.cells #[.int .u8 b] 5)) = .ok (.string (byteS b)) (w.alloc (.cells #[.int .u8 b] 5)) := by
  have hcl : ∀ i, i < 1 → (w.alloc (.cells #[.int .u8 b] 5)).cell? ⟨w.heap.size, 0 + i, none⟩ = some (.int .u8 ([(b : Int)].getD i 0)) := by
    intro i hi
    obtain rfl : i = 0 := by omega
    exact (Blk.new w _ _).cell 0 rfl
  exact run_convert_bytes_arg (P := Try.prog) _ _ _ Try.underlying111 Try.underlying5 _ 0 1 1 [(b : Int)] rfl hcl _ Try.underlying9
theorem dig_hi (b : Nat) : (digS (b / 16)) = hexs.extract ((b : Int) / 16).toNat (((b : Int) / 16).toNat + 1) := by
  unfold digS; rw [show ((b : Int) / 16).toNat = b / 16 from by omega]
set_option maxHeartbeats 1000000 in
set_option maxRecDepth 100000 in
theorem tokWritten_any (b : Nat) (ap : ByteArray) (w : World) (hb : (b : Int) < 256) :
    Calls Try.prog 115 #[.int .u8 b, .string ap] w fun e w' => e = .returned (.string (writtenS b ap)) ∧ Chg Nothing w w' := by
  cases hs : signB b with
  | false =>
    have hE := hid (show writtenS b ap = (⟨#[92, 120]⟩ ++ digS (b / 16)) ++ digS (b % 16) from by unfold writtenS; rw [if_pos hs])
    have hg := hid (fun w => by have := tokSign_any b w (by omega); rw [hs] at this; exact this : ∀ w, Calls Try.prog 106 #[.int .u8 b] w fun e w' => e = .returned (.bool false) ∧ w' = w)
    clear hs
    rw [hE.out]
    have k1 := IntWalk.u8_in ((b : Int) / 16) (by omega)
    have k2 := IntWalk.u8_in ((b : Int) / 16 + 1) (by omega)
    have k3 := IntWalk.u8_in ((b : Int) % 16) (by omega)
    have k4 := IntWalk.u8_in ((b : Int) % 16 + 1) (by omega)
    have m1 : 0 ≤ (b : Int) / 16 := by omega
    have m2 : (b : Int) / 16 ≤ 15 := by omega
    have m3 : 0 ≤ (b : Int) % 16 := by omega
    have m4 : (b : Int) % 16 ≤ 15 := by omega
    go_enter Try.func115, Try.ntmps115
    go_wp2_with fail
    refine (hg.out _).mono ?_
    rintro e w' ⟨rfl, rfl⟩
    go_wp2_with fail
    go_quiet (fail)
    go_wp2
    go_ret
    exact ⟨rfl, (Chg.refl _ _).drewN _⟩
  | true =>
    have hg := hid (fun w => by have := tokSign_any b w (by omega); rw [hs] at this; exact this : ∀ w, Calls Try.prog 106 #[.int .u8 b] w fun e w' => e = .returned (.bool true) ∧ w' = w)
    have hcv := conv_one w b
    cases hi : inS ap b with
    | true =>
      have hE := hid (show writtenS b ap = ⟨#[92]⟩ ++ byteS b from by unfold writtenS; rw [if_neg (by rw [hs]; simp), if_pos hi])
      have hd : decide (0 ≤ idxV ap b) = true := by rw [in_idx _ _ (by omega), hi]
      have hd' : 0 ≤ idxV ap b := of_decide_eq_true hd
      clear hs hi
      rw [hE.out]
      go_enter Try.func115, Try.ntmps115
      go_wp2_with fail
      refine (hg.out _).mono ?_
      rintro e w' ⟨rfl, hw⟩
      subst hw
      go_wp2_with fail
      refine (idx_any ap b _).mono ?_
      rintro e w' ⟨rfl, hw⟩
      subst hw
      go_wp2
      go_ret
      exact ⟨rfl, (Chg.refl _ _).alloc _⟩
    | false =>
      have hE := hid (show writtenS b ap = byteS b from by unfold writtenS; rw [if_neg (by rw [hs]; simp), if_neg (by rw [hi]; simp)])
      have hd : decide (0 ≤ idxV ap b) = false := by rw [in_idx _ _ (by omega), hi]
      have hd' : ¬ 0 ≤ idxV ap b := of_decide_eq_false hd
      clear hs hi
      rw [hE.out]
      go_enter Try.func115, Try.ntmps115
      go_wp2_with fail
      refine (hg.out _).mono ?_
      rintro e w' ⟨rfl, hw⟩
      subst hw
      go_wp2_with fail
      refine (idx_any ap b _).mono ?_
      rintro e w' ⟨rfl, hw⟩
      subst hw
      go_wp2
      go_ret
      exact ⟨rfl, (Chg.refl _ _).alloc _⟩
end Go.Proofs.Ytllblpiakijpaaa

/- Layer 13: printing: the document's written, Digits; the program's digits. -/
namespace Go.Proofs.Ytllblpiakijpaaa
open Go.RowKit
set_option linter.unusedVariables false
attribute [local go_sem ↓] Go.wp_at_zero Go.wp_at_succ
theorem refDigit_of (z : Int) (n : Nat) (hz : z = n) (w : World) (hn : n < 16) :
    Calls Try.prog 84 #[.int .i64 z] w fun e w' => e = .returned (.string (digS n)) ∧ w' = w := by subst hz; exact refDigit_any n w hn
theorem digS_size (n : Nat) : (digS n).size ≤ 1 := by unfold digS; simp; omega
theorem byteS_size (b : Nat) : (byteS b).size = 1 := by unfold byteS; rw [strOfNums_size]; rfl
set_option maxHeartbeats 1000000 in
set_option maxRecDepth 100000 in
theorem refWritten_any (b : Nat) (ap : ByteArray) (w : World) (hb : (b : Int) < 256) (hs : ap.size ≤ 9223372036854775807) :
    Calls Try.prog 99 #[.int .u8 b, .string ap] w fun e w' => e = .returned (.string (writtenS b ap)) ∧ Chg Nothing w w' := by
  cases hsg : signB b with
  | false =>
    have hE := hid (show writtenS b ap = (⟨#[92, 120]⟩ ++ digS (b / 16)) ++ digS (b % 16) from by unfold writtenS; rw [if_pos hsg])
    have hg := hid (fun w => by have := refSign_any b w (by omega); rw [hsg] at this; exact this : ∀ w, Calls Try.prog 111 #[.int .u8 b] w fun e w' => e = .returned (.bool false) ∧ w' = w)
    clear hsg
    rw [hE.out]
    have m1 : 0 ≤ (b : Int) / 16 := by omega
    have m2 : (b : Int) / 16 ≤ 15 := by omega
    have m3 : 0 ≤ (b : Int) % 16 := by omega
    have m4 : (b : Int) % 16 ≤ 15 := by omega
    have d1 := digS_size (b / 16)
    have d2 := digS_size (b % 16)
    go_enter Try.func99, Try.ntmps99
    go_wp2_with fail
    refine (hg.out _).mono ?_
    rintro e w' ⟨rfl, rfl⟩
    go_wp2_with fail
    refine (refDigit_of _ (b / 16) (by omega) _ (by omega)).mono ?_
    rintro e w' ⟨rfl, hw⟩
    subst hw
    go_wp2_with fail
    refine (refDigit_of _ (b % 16) (by omega) _ (by omega)).mono ?_
    rintro e w' ⟨rfl, hw⟩
    subst hw
    go_wp2
    go_ret
    exact ⟨rfl, Chg.refl _ _⟩
  | true =>
    have hg := hid (fun w => by have := refSign_any b w (by omega); rw [hsg] at this; exact this : ∀ w, Calls Try.prog 111 #[.int .u8 b] w fun e w' => e = .returned (.bool true) ∧ w' = w)
    have hcv := conv_one w b
    cases hi : inS ap b with
    | true =>
      have hE := hid (show writtenS b ap = ⟨#[92]⟩ ++ byteS b from by unfold writtenS; rw [if_neg (by rw [hsg]; simp), if_pos hi])
      have hin := hid (fun w => by have := refIn_any ap b w (by omega) hs; rw [hi] at this; exact this : ∀ w, Calls Try.prog 117 #[.string ap, .int .u8 b] w fun e w' => e = .returned (.bool true) ∧ w' = w)
      clear hsg hi
      rw [hE.out]
      go_enter Try.func99, Try.ntmps99
      go_wp2_with fail
      refine (hg.out _).mono ?_
      rintro e w' ⟨rfl, hw⟩
      subst hw
      go_wp2_with fail
      refine (hin.out _).mono ?_
      rintro e w' ⟨rfl, hw⟩
      subst hw
      go_wp2
      go_ret
      exact ⟨rfl, (Chg.refl _ _).alloc _⟩
    | false =>
      have hE := hid (show writtenS b ap = byteS b from by unfold writtenS; rw [if_neg (by rw [hsg]; simp), if_neg (by rw [hi]; simp)])
      have hin := hid (fun w => by have := refIn_any ap b w (by omega) hs; rw [hi] at this; exact this : ∀ w, Calls Try.prog 117 #[.string ap, .int .u8 b] w fun e w' => e = .returned (.bool false) ∧ w' = w)
      clear hsg hi
      rw [hE.out]
      go_enter Try.func99, Try.ntmps99
      go_wp2_with fail
      refine (hg.out _).mono ?_
      rintro e w' ⟨rfl, hw⟩
      subst hw
      go_wp2_with fail
      refine (hin.out _).mono ?_
      rintro e w' ⟨rfl, hw⟩
      subst hw
      go_wp2
      go_ret
      exact ⟨rfl, (Chg.refl _ _).alloc _⟩
/-- The digits of a number. -/
def decS (n : Nat) : ByteArray := if h : n < 10 then byteS (48 + n) else decS (n / 10) ++ byteS (48 + n % 10)
theorem decS_few {n : Nat} (h : n < 10) : decS n = byteS (48 + n) := by rw [decS, dif_pos h]
theorem decS_more {n : Nat} (h : ¬ n < 10) : decS n = decS (n / 10) ++ byteS (48 + n % 10) := by rw [decS, dif_neg h]
theorem decS_size (n : Nat) : (decS n).size ≤ n + 1 := by
  induction n using Nat.strongRecOn with
  | _ n ih =>
    by_cases h : n < 10
    · rw [decS_few h]; unfold byteS; rw [strOfNums_size]; simp
    · rw [decS_more h, ByteArray.size_append]
      have := ih (n / 10) (by omega)
      have : (byteS (48 + n % 10)).size = 1 := by unfold byteS; rw [strOfNums_size]; rfl
      omega
set_option maxHeartbeats 1000000 in
set_option maxRecDepth 100000 in
theorem tokDigits_any (n : Nat) (hn : n ≤ 1000000000) : ∀ (w : World),
    Calls Try.prog 95 #[.int .i64 n] w fun e w' => e = .returned (.string (decS n)) ∧ Chg Nothing w w' := by
  induction n using Nat.strongRecOn with
  | _ n ih =>
    intro w
    by_cases h : n < 10
    · have hE := hid (decS_few h)
      rw [hE.out]
      have k1 := IntWalk.u8_in ((48 : Int) + n) (by omega)
      have hcv := conv_one w (48 + n)
      rw [show ((48 + n : Nat) : Int) = 48 + (n : Int) from by omega] at hcv
      go_enter Try.func95, Try.ntmps95
      go_wp2
      go_ret
      exact ⟨rfl, (Chg.refl _ _).alloc _⟩
    · have hE := hid (decS_more h)
      rw [hE.out]
      have h1 := hid (ih (n / 10) (by omega) (by omega))
      have h2 := hid (ih (n % 10) (by omega) (by omega))
      have h3 := hid (decS_few (n := n % 10) (by omega))
      have m1 : 0 ≤ (n : Int) / 10 := by omega
      have m3 : 0 ≤ (n : Int) % 10 := by omega
      have e1 : (decS (n / 10)).size ≤ 1000000001 := by have := decS_size (n / 10); omega
      have e2 := byteS_size (48 + n % 10)
      have e3 : (byteS (48 + n % 10)).size ≤ 1 := by omega
      clear ih e2
      go_enter Try.func95, Try.ntmps95
      go_wp2_with fail
      rw [show (n : Int) / 10 = ((n / 10 : Nat) : Int) from by omega]
      refine (h1.out _).mono ?_
      rintro e w1 ⟨rfl, hc⟩
      go_wp2_with fail
      rw [show (n : Int) % 10 = ((n % 10 : Nat) : Int) from by omega]
      refine (h2.out _).mono ?_
      rintro e w2 ⟨rfl, hc2⟩
      rw [h3.out]
      go_wp2
      go_ret
      exact ⟨rfl, hc.trans hc2⟩
end Go.Proofs.Ytllblpiakijpaaa

/- Layer 13: printing: the program's Element. -/
namespace Go.Proofs.Ytllblpiakijpaaa
open Go.RowKit
set_option linter.unusedVariables false
attribute [local go_sem ↓] Go.wp_at_zero Go.wp_at_succ
def outsideSet : ByteArray := ⟨#[92, 34, 63, 91]⟩
/-- A row of bytes is written behind a text. -/
def runT (out : ByteArray) (r : Nat × Nat) : ByteArray :=
  let o1 := out ++ writtenS r.1 insideSet
  let o2 := if 1 < r.2 - r.1 then o1 ++ ⟨#[45]⟩ else o1
  if r.1 < r.2 then o2 ++ writtenS r.2 insideSet else o2
def runsT (rs : List (Nat × Nat)) : ByteArray := rs.foldl runT ⟨#[91]⟩
theorem writtenS_size (b : Nat) (ap : ByteArray) : 1 ≤ (writtenS b ap).size ∧ (writtenS b ap).size ≤ 4 := by
  unfold writtenS
  split
  · rw [ByteArray.size_append, ByteArray.size_append]
    have h1 := digS_size (b / 16); have h2 := digS_size (b % 16)
    have h3 : (⟨#[92, 120]⟩ : ByteArray).size = 2 := rfl
    omega
  · split
    · rw [ByteArray.size_append, byteS_size]
      have h3 : (⟨#[92]⟩ : ByteArray).size = 1 := rfl
      omega
    · rw [byteS_size]; omega
theorem runT_size (out : ByteArray) (r : Nat × Nat) : out.size + 1 ≤ (runT out r).size ∧ (runT out r).size ≤ out.size + 9 := by
  have h1 := writtenS_size r.1 insideSet
  have h2 := writtenS_size r.2 insideSet
  have h3 : (⟨#[45]⟩ : ByteArray).size = 1 := rfl
  unfold runT
  simp only []
  split <;> split <;> simp only [ByteArray.size_append] <;> omega
theorem runsT_go (rs : List (Nat × Nat)) : ∀ (out : ByteArray), out.size + rs.length ≤ (rs.foldl runT out).size ∧ (rs.foldl runT out).size ≤ out.size + 9 * rs.length := by
  induction rs with
  | nil => intro out; simp
  | cons r rs ih =>
    intro out
    have h1 := runT_size out r
    have h2 := ih (runT out r)
    simp only [List.foldl_cons, List.length_cons]
    omega
/-- The bytes of rows are bytes, each row from one to another one. -/
theorem runs_ok (x : Cls) (k : Nat) : ∀ r ∈ runsTo x k, r.1 ≤ r.2 ∧ r.2 < k := by
  induction k with
  | zero => intro r hr; simp [runsTo] at hr
  | succ k ih =>
    intro r hr
    rw [runsTo_succ] at hr
    unfold runsStep at hr
    split at hr
    · split at hr
      · rw [List.mem_append] at hr
        rcases hr with hr | hr
        · have := ih r (List.dropLast_subset _ hr); omega
        · simp only [List.mem_singleton] at hr
          subst hr
          have hl : (runsTo x k).getLastD (0, 0) ∈ (0, 0) :: runsTo x k := List.getLastD_mem_cons
          rw [List.mem_cons] at hl
          rcases hl with hl | hl
          · rw [hl]; exact ⟨Nat.zero_le _, by simp⟩
          · have := ih _ hl; exact ⟨by simp only []; omega, by simp⟩
      · rw [List.mem_append] at hr
        rcases hr with hr | hr
        · have := ih r hr; omega
        · simp only [List.mem_singleton] at hr; subst hr; exact ⟨Nat.le_refl _, by simp⟩
    · have := ih r hr; omega
theorem runs_nil (x : Cls) (k : Nat) : runsTo x k = [] ↔ ∀ i, i < k → x.getLsbD i = false := by
  induction k with
  | zero => constructor
            · intro _ i hi; omega
            · intro _; rfl
  | succ k ih =>
    rw [runsTo_succ]
    unfold runsStep
    by_cases hb : x.getLsbD k = true
    · rw [if_pos hb]
      constructor
      · intro h; exfalso; split at h <;> simp at h
      · intro h; have := h k (by omega); rw [hb] at this; cases this
    · rw [if_neg hb, ih]
      constructor
      · intro h i hi
        rcases Nat.lt_or_ge i k with h1 | h1
        · exact h i h1
        · have : i = k := by omega
          subst this; simpa using hb
      · intro h i hi; exact h i (by omega)
theorem runsC_nil (x : Cls) : runsC x = [] ↔ x = 0 := by
  unfold runsC
  rw [runs_nil]
  constructor
  · intro h; exact cls_ext fun i hi => by rw [h i hi]; simp
  · rintro rfl i hi; simp
theorem singleC_lt {x : Cls} {b : Nat} (h : singleC x = some b) : b < 256 := by
  unfold singleC at h
  cases hf : (List.range 256).find? fun b => x.getLsbD b with
  | none => rw [hf] at h; cases h
  | some q =>
    rw [hf] at h
    have hm := List.mem_of_find?_eq_some hf
    rw [List.mem_range] at hm
    simp only [Option.bind_some] at h
    split at h
    · injection h with h; omega
    · cases h
/-- The text of a class. -/
def elemS (x : Cls) : Option ByteArray :=
  if x = fullC then some ⟨#[63]⟩
  else match singleC x with
    | some b => some (writtenS b outsideSet)
    | none => if x = 0 then none else some (runsT (runsC x) ++ ⟨#[93]⟩)
def elemV (x : Cls) : Array Value := match elemS x with
  | some t => #[.string t, .bool true]
  | none => #[.string ByteArray.empty, .bool false]
theorem runsTake (rs : List (Nat × Nat)) (k : Nat) (h : k < rs.length) : runsT (rs.take (k + 1)) = runT (runsT (rs.take k)) (rs.getD k (0, 0)) := by
  unfold runsT
  rw [List.take_succ_eq_append_getElem h, List.foldl_append]
  simp [h]
theorem encR_at (rs : List (Nat × Nat)) (k j : Nat) (hk : k < rs.length) (hj : j < 2) : (rs.flatMap encR).getD (k * 2 + j) undef = (encR (rs.getD k (0, 0))).getD j undef := flat_getD encR 2 (fun _ => rfl) (0, 0) rs k j hk hj
def ElInv (x : Cls) (w : World) (A : Option Addr) (n c : Nat) (ov iv : Value) (wr : World) : Prop :=
  ∃ k : Nat, k ≤ n ∧ iv = .int .i64 k ∧ ov = .string (runsT ((runsC x).take k)) ∧ Hid (RowAt 2 (fun j => j < wr.heap.size) wr A n c ((runsC x).flatMap encR)) ∧ Chg Nothing w wr
set_option maxHeartbeats 4000000 in
set_option maxRecDepth 100000 in
theorem tokElement_any (x : Cls) (w : World) :
    Calls Try.prog 96 #[encC x] w fun e w' => e = .returned (.tuple (elemV x)) ∧ Chg Nothing w w' := by
  unfold encC
  have hX := Blk.new w (cellsC x) 70
  have HX' := hid hX
  obtain ⟨r0, r1, r2, r3, f0, f1, f2, f3, hlt⟩ := CBox.at_ hX
  clear hX
  have hq := eq_class x fullC
  by_cases hf : x = fullC
  · have hE := hid (show elemV x = #[.string ⟨#[63]⟩, .bool true] from by unfold elemV elemS; rw [if_pos hf])
    rw [hE.out]
    rw [decide_eq_true hf] at hq
    unfold encC at hq
    replace hf := hid hf
    go_enter Try.func96, Try.ntmps96
    go_wp2_with fail
    go_region_with (first | (go_at_call 85; (with_reducible refine (classFullL _).mono ?_); rintro e w3 ⟨rfl, hcx⟩; have HX3 := hid (Blk.chg (Blk.drew HX'.out) hcx id); obtain ⟨y0, y1, y2, y3, z0, z1, z2, z3, hl3⟩ := CBox.at_ HX3.out; have hcy := hid hcx; clear hcx))
    all_goals
      go_wp2
      go_ret2
      exact ⟨rfl, (((Chg.refl Nothing w).alloc _).drew).trans hcy.out⟩
  · rw [decide_eq_false hf] at hq
    unfold encC at hq
    have hE0 : Hid (elemS x = match singleC x with
      | some b => some (writtenS b outsideSet)
      | none => if x = 0 then none else some (runsT (runsC x) ++ ⟨#[93]⟩)) := hid (by unfold elemS; rw [if_neg hf])
    replace hf := hid hf
    cases hsg : singleC x with
    | some b =>
      have hb : b < 256 := singleC_lt hsg
      have hE := hid (show elemV x = #[.string (writtenS b outsideSet), .bool true] from by unfold elemV; rw [hE0.out, hsg])
      have hS := hid (show ∀ w, Calls Try.prog 114 #[.agg #[.int .u64 (wd x 0), .int .u64 (wd x 1), .int .u64 (wd x 2), .int .u64 (wd x 3)]] w fun e w' => e = .returned (.tuple #[.int .u8 b, .bool true]) ∧ Chg Nothing w w' from fun w => by
        have := classSingle_any x w
        unfold singleV at this
        rw [hsg] at this; exact this)
      rw [hE.out]
      clear hsg
      go_enter Try.func96, Try.ntmps96
      go_wp2_with fail
      go_region_with (first | (go_at_call 85; (with_reducible refine (classFullL _).mono ?_); rintro e w3 ⟨rfl, hcx⟩; have HX3 := hid (Blk.chg (Blk.drew HX'.out) hcx id); obtain ⟨y0, y1, y2, y3, z0, z1, z2, z3, hl3⟩ := CBox.at_ HX3.out; have hcy := hid hcx; clear hcx))
      all_goals
        go_wp2_with fail
        refine (hS.out _).mono ?_
        rintro e w4 ⟨rfl, hc4⟩
        go_wp2_with fail
        refine (tokWritten_any b outsideSet _ (by omega)).mono ?_
        rintro e w5 ⟨rfl, hc5⟩
        go_wp2
        go_ret2
        exact ⟨rfl, (((((Chg.refl Nothing w).alloc _).drew).trans hcy.out).trans hc4).trans hc5⟩
    | none =>
      have hE1 : Hid (elemS x = if x = 0 then none else some (runsT (runsC x) ++ ⟨#[93]⟩)) := hid (by rw [hE0.out, hsg])
      have hS := hid (show ∀ w, Calls Try.prog 114 #[.agg #[.int .u64 (wd x 0), .int .u64 (wd x 1), .int .u64 (wd x 2), .int .u64 (wd x 3)]] w fun e w' => e = .returned (.tuple #[.int .u8 0, .bool false]) ∧ Chg Nothing w w' from fun w => by
        have := classSingle_any x w
        unfold singleV at this
        rw [hsg] at this; exact this)
      clear hsg
      go_enter Try.func96, Try.ntmps96
      go_wp2_with fail
      go_region_with (first | (go_at_call 85; (with_reducible refine (classFullL _).mono ?_); rintro e w3 ⟨rfl, hcx⟩; have HX3 := hid (Blk.chg (Blk.drew HX'.out) hcx id); obtain ⟨y0, y1, y2, y3, z0, z1, z2, z3, hl3⟩ := CBox.at_ HX3.out; have hcy := hid hcx; clear hcx))
      all_goals
        go_wp2_with fail
        refine (hS.out _).mono ?_
        rintro e w4 ⟨rfl, hc4⟩
        have HX4 := hid (Blk.chg HX3.out hc4 id)
        clear r0 r1 r2 r3 f0 f1 f2 f3 y0 y1 y2 y3 z0 z1 z2 z3
        obtain ⟨r0, r1, r2, r3, f0, f1, f2, f3, hlt4⟩ := CBox.at_ HX4.out
        have hC4 := hid (((((Chg.refl Nothing w).alloc _).drew).trans hcy.out).trans hc4)
        clear hc4
        go_wp2_with fail
        refine (classRuns_any x _).mono ?_
        rintro e w5 ⟨A, n, c, rfl, hrl, hown, hc5⟩
        have hC5 := hid (hC4.out.trans hc5)
        have HR5 := hid ((RowAt.of_own hown).mono (G := fun j => j < w5.heap.size) (fun j hj _ => hj))
        replace hrl := hid hrl
        clear hown hc5 r0 r1 r2 r3 f0 f1 f2 f3 hlt4 HX4 HX3 hcy hC4
        go_wp2_with fail
        have hrn : n ≤ 256 := by have := runsTo_len x 256; have h2 := hrl.out; unfold runsC at h2; omega
        go_loopw [6, 23] (fun ov iv wr => ElInv x w A n c ov iv wr) (fun _ iv _ => n - (intOf iv).toNat)
        case atStart => exact ⟨0, Nat.zero_le _, rfl, rfl, HR5, hC5.out⟩
        case round =>
          clear HR5 hC5 hS
          obtain ⟨k, hk, rfl, rfl, HR, hchg⟩ := hrel
          rcases Nat.lt_or_ge k n with hkn | hkn
          · obtain ⟨g, o, rfl, hg, hgl, hcell⟩ := HR.out.cell hkn (by decide)
            have hc0 := hcell 0 (by decide)
            have hc1 := hcell 1 (by decide)
            rw [encR_at _ k 0 (by rw [hrl.out]; exact hkn) (by decide)] at hc0
            rw [encR_at _ k 1 (by rw [hrl.out]; exact hkn) (by decide)] at hc1
            have hrk := runs_ok x 256 ((runsC x).getD k (0, 0)) (by
              rw [List.getD_eq_getElem?_getD, List.getElem?_eq_getElem (by rw [hrl.out]; exact hkn)]
              exact List.getElem_mem _)
            have hT := hid (runsTake (runsC x) k (by rw [hrl.out]; exact hkn))
            generalize (runsC x).getD k (0, 0) = rr at hc0 hc1 hrk hT
            obtain ⟨f, t⟩ := rr
            simp only [encR] at hc0 hc1
            simp only [List.getD_cons_zero, List.getD_cons_succ] at hc0 hc1
            simp only at hrk
            replace hc0 : wr.cell? ⟨g, o + k * 2, none⟩ = some (.int .u8 f) := hc0
            replace hc1 : wr.cell? ⟨g, o + k * 2 + 1, none⟩ = some (.int .u8 t) := hc1
            clear hcell hg
            have hso := (runsT_go ((runsC x).take k) ⟨#[91]⟩).2
            have hso : (runsT ((runsC x).take k)).size ≤ 3000 := by
              have h1 : (⟨#[91]⟩ : ByteArray).size = 1 := rfl
              have h2 : ((runsC x).take k).length ≤ k := List.length_take_le _ _
              unfold runsT; omega
            generalize hOut : runsT ((runsC x).take k) = out at hso hT
            replace hOut := hid hOut
            have hw1 := (writtenS_size f insideSet).2
            have hw2 := (writtenS_size t insideSet).2
            have hbf : (f : Int) < 256 := by omega
            have hbt : (t : Int) < 256 := by omega
            have ku := IntWalk.u8_in ((t : Int) - (f : Int)) (by omega)
            have hcase : t = f ∨ t = f + 1 ∨ f + 1 < t := by omega
            rcases hcase with ht | ht | ht
            · have hR := hid (show runT out (f, t) = out ++ writtenS f insideSet from by unfold runT; simp only []; rw [if_neg (by omega), if_neg (by omega)])
              have ht1 : ¬ (1 : Int) < (t : Int) - (f : Int) := by omega
              have ht2 : ¬ (f : Int) < (t : Int) := by omega
              replace ht := hid ht
              go_wp2_with fail
              refine (tokWritten_any f insideSet _ hbf).mono ?_
              rintro e w6 ⟨rfl, hc⟩
              have HR6 := hid (HR.out.chg (((Chg.refl Nothing wr).alloc (.cells #[.int .u8 f, .int .u8 t] 125)).trans hc) (fun _ _ _ h => h))
              have hC6 := hid ((hchg.alloc (.cells #[.int .u8 f, .int .u8 t] 125)).trans hc)
              have HB6 := (Blk.new wr #[.int .u8 f, .int .u8 t] 125).chg hc id
              have b0 := HB6.cell 0 rfl
              have b1 := HB6.cell 1 rfl
              have hl6 := HB6.lt
              clear hc HR hchg hc0 hc1
              go_wp2
              go_roundw
              case rel => exact ⟨k + 1, hkn, by go_num, by rw [hT.out, hR.out], hid (HR6.out.mono (fun j hj _ => hj)), hC6.out⟩
              case measure => simp [intOf]; omega
            · have hR := hid (show runT out (f, t) = (out ++ writtenS f insideSet) ++ writtenS t insideSet from by unfold runT; simp only []; rw [if_pos (by omega), if_neg (by omega)])
              have ht1 : ¬ (1 : Int) < (t : Int) - (f : Int) := by omega
              have ht2 : (f : Int) < (t : Int) := by omega
              replace ht := hid ht
              go_wp2_with fail
              refine (tokWritten_any f insideSet _ hbf).mono ?_
              rintro e w6 ⟨rfl, hc⟩
              have HR6 := hid (HR.out.chg (((Chg.refl Nothing wr).alloc (.cells #[.int .u8 f, .int .u8 t] 125)).trans hc) (fun _ _ _ h => h))
              have hC6 := hid ((hchg.alloc (.cells #[.int .u8 f, .int .u8 t] 125)).trans hc)
              have HB6 := (Blk.new wr #[.int .u8 f, .int .u8 t] 125).chg hc id
              have b0 := HB6.cell 0 rfl
              have b1 := HB6.cell 1 rfl
              have hl6 := HB6.lt
              clear hc HR hchg hc0 hc1
              go_wp2_with fail
              refine (tokWritten_any t insideSet _ hbt).mono ?_
              rintro e w7 ⟨rfl, hc⟩
              have HR7 := hid (HR6.out.chg hc (fun _ _ _ h => h))
              have hC7 := hid (hC6.out.trans hc)
              clear hc HR6 hC6 HB6 b0 b1
              go_wp2
              go_roundw
              case rel => exact ⟨k + 1, hkn, by go_num, by rw [hT.out, hR.out], hid (HR7.out.mono (fun j hj _ => hj)), hC7.out⟩
              case measure => simp [intOf]; omega
            · have hR := hid (show runT out (f, t) = ((out ++ writtenS f insideSet) ++ ⟨#[45]⟩) ++ writtenS t insideSet from by unfold runT; simp only []; rw [if_pos (by omega), if_pos (by omega)])
              have ht1 : (1 : Int) < (t : Int) - (f : Int) := by omega
              have ht2 : (f : Int) < (t : Int) := by omega
              have hdz : (⟨#[45]⟩ : ByteArray).size ≤ 1 := Nat.le_refl 1
              go_wp2_with fail
              refine (tokWritten_any f insideSet _ hbf).mono ?_
              rintro e w6 ⟨rfl, hc⟩
              have HR6 := hid (HR.out.chg (((Chg.refl Nothing wr).alloc (.cells #[.int .u8 f, .int .u8 t] 125)).trans hc) (fun _ _ _ h => h))
              have hC6 := hid ((hchg.alloc (.cells #[.int .u8 f, .int .u8 t] 125)).trans hc)
              have HB6 := (Blk.new wr #[.int .u8 f, .int .u8 t] 125).chg hc id
              have b0 := HB6.cell 0 rfl
              have b1 := HB6.cell 1 rfl
              have hl6 := HB6.lt
              clear hc HR hchg hc0 hc1
              go_wp2_with fail
              refine (tokWritten_any t insideSet _ hbt).mono ?_
              rintro e w7 ⟨rfl, hc⟩
              have HR7 := hid (HR6.out.chg hc (fun _ _ _ h => h))
              have hC7 := hid (hC6.out.trans hc)
              clear hc HR6 hC6 HB6 b0 b1
              go_wp2
              go_roundw
              case rel => exact ⟨k + 1, hkn, by go_num, by rw [hT.out, hR.out], hid (HR7.out.mono (fun j hj _ => hj)), hC7.out⟩
              case measure => simp [intOf]; omega
          · have hkn' : k = n := by omega
            subst hkn'
            have hall := hid (show (runsC x).take k = runsC x from List.take_of_length_le (by rw [hrl.out]; exact Nat.le_refl _))
            rw [hall.out]
            have hgo := runsT_go (runsC x) ⟨#[91]⟩
            have h91 : (⟨#[91]⟩ : ByteArray).size = 1 := rfl
            have hrl' := hrl.out
            by_cases h0 : x = 0
            · have hE := hid (show elemV x = #[.string ByteArray.empty, .bool false] from by unfold elemV; rw [hE1.out, if_pos h0])
              have hr0 := hid (show runsT (runsC x) = ⟨#[91]⟩ from by rw [(runsC_nil x).2 h0]; rfl)
              rw [hr0.out]
              clear hgo hrl' h91 h0
              go_wp2
              go_ret2
              exact ⟨by rw [hE.out]; rfl, hchg⟩
            · have hE := hid (show elemV x = #[.string (runsT (runsC x) ++ ⟨#[93]⟩), .bool true] from by unfold elemV; rw [hE1.out, if_neg h0])
              have hlen : 0 < (runsC x).length := by
                rcases Nat.eq_zero_or_pos (runsC x).length with h | h
                · exact absurd ((runsC_nil x).1 (List.eq_nil_of_length_eq_zero h)) h0
                · exact h
              have hsz : 2 ≤ (runsT (runsC x)).size ∧ (runsT (runsC x)).size ≤ 3000 := by unfold runsT; omega
              obtain ⟨out, hout⟩ : ∃ out, out = runsT (runsC x) := ⟨_, rfl⟩
              rw [← hout] at hsz ⊢
              replace hout := hid hout
              have hne : (out.toList == [91]) = false := by
                rw [beq_eq_false_iff_ne]; intro e
                have hl : out.toList.length = out.size := by rw [ByteArray.toList_eq]; simp
                rw [e] at hl
                have := hsz.1
                simp at hl; omega
              clear hgo hrl' h91 h0 hlen
              go_wp2
              go_ret2
              exact ⟨by rw [hE.out, ← hout.out]; rfl, hchg⟩
end Go.Proofs.Ytllblpiakijpaaa

/- Layer 13: printing: the document's Element. -/
namespace Go.Proofs.Ytllblpiakijpaaa
open Go.RowKit
set_option linter.unusedVariables false
attribute [local go_sem ↓] Go.wp_at_zero Go.wp_at_succ
theorem sizeTo_full (x : Cls) (k : Nat) : sizeTo x k = k ↔ ∀ i, i < k → x.getLsbD i = true := by
  induction k with
  | zero => exact ⟨fun _ i h => by omega, fun _ => rfl⟩
  | succ k ih =>
    rw [sizeTo_succ]
    have hl := sizeTo_le x k
    by_cases hb : x.getLsbD k = true
    · rw [if_pos hb]
      constructor
      · intro h i hi
        rcases Nat.lt_or_ge i k with h1 | h1
        · exact ih.1 (by omega) i h1
        · have : i = k := by omega
          subst this; exact hb
      · intro h; have := ih.2 (fun i hi => h i (by omega)); omega
    · rw [if_neg hb]
      constructor
      · intro h; omega
      · intro h; exact absurd (h k (by omega)) hb
theorem sizeC_full (x : Cls) : sizeC x = 256 ↔ x = fullC := by
  unfold sizeC
  rw [sizeTo_full]
  constructor
  · intro h; exact cls_ext fun i hi => by rw [h i hi, fullC_get hi]
  · rintro rfl i hi; exact fullC_get hi
theorem singleC_zero : singleC 0 = none := singleC_not (by rw [sizeC_zero.2 rfl]; decide)
theorem zero_ne_full : (0 : Cls) ≠ fullC := by decide
set_option maxHeartbeats 4000000 in
set_option maxRecDepth 100000 in
theorem refElement13_any (x : Cls) (w : World) :
    Calls Try.prog 83 #[encC x] w fun e w' => e = .returned (.tuple (elemV x)) ∧ Chg Nothing w w' := by
  unfold encC
  have hX := Blk.new w (cellsC x) 70
  have HX0 := hid hX
  have hC0 := hid ((Chg.refl Nothing w).alloc (.cells (cellsC x) 70))
  obtain ⟨r0, r1, r2, r3, f0, f1, f2, f3, hlt⟩ := CBox.at_ hX
  clear hX
  by_cases h0 : x = 0
  · have hE := hid (show elemV x = #[.string ByteArray.empty, .bool false] from by unfold elemV elemS; rw [h0, if_neg zero_ne_full, singleC_zero]; rfl)
    have hz : ((sizeC x : Int) == 0) = true := by rw [sizeC_zero.2 h0]; rfl
    replace h0 := hid h0
    go_enter Try.func83, Try.ntmps83
    go_wp2_with fail
    refine (refSizeL x _).mono ?_
    rintro e W1 ⟨rfl, hcS⟩
    have HX1 := hid (HX0.out.chg hcS id)
    have hC1 := hid (hC0.out.trans hcS)
    clear hcS r0 r1 r2 r3 f0 f1 f2 f3 hlt
    obtain ⟨r0, r1, r2, r3, f0, f1, f2, f3, hlt⟩ := CBox.at_ HX1.out
    go_wp2
    go_ret2
    exact ⟨by rw [hE.out]; rfl, hC1.out⟩
  · have hz : ((sizeC x : Int) == 0) = false := by rw [beq_eq_false_iff_ne]; intro e; exact h0 (sizeC_zero.1 (by omega))
    by_cases hf : x = fullC
    · have hE := hid (show elemV x = #[.string ⟨#[63]⟩, .bool true] from by unfold elemV elemS; rw [if_pos hf])
      have hz2 : ((sizeC x : Int) == 256) = true := by rw [(sizeC_full x).2 hf]; rfl
      replace hf := hid hf
      replace h0 := hid h0
      go_enter Try.func83, Try.ntmps83
      go_wp2_with fail
      refine (refSizeL x _).mono ?_
      rintro e W1 ⟨rfl, hcS⟩
      have HX1 := hid (HX0.out.chg hcS id)
      have hC1 := hid (hC0.out.trans hcS)
      clear hcS r0 r1 r2 r3 f0 f1 f2 f3 hlt
      obtain ⟨r0, r1, r2, r3, f0, f1, f2, f3, hlt⟩ := CBox.at_ HX1.out
      go_wp2_with fail
      refine (refSizeL x _).mono ?_
      rintro e W2 ⟨rfl, hcS⟩
      have HX2 := hid (HX1.out.chg hcS id)
      have hC2 := hid (hC1.out.trans hcS)
      clear hcS r0 r1 r2 r3 f0 f1 f2 f3 hlt
      obtain ⟨r0, r1, r2, r3, f0, f1, f2, f3, hlt⟩ := CBox.at_ HX2.out
      go_wp2
      go_ret2
      exact ⟨by rw [hE.out]; rfl, hC2.out⟩
    · have hz2 : ((sizeC x : Int) == 256) = false := by rw [beq_eq_false_iff_ne]; intro e; exact hf ((sizeC_full x).1 (by omega))
      have hE0 : Hid (elemS x = match singleC x with
        | some b => some (writtenS b outsideSet)
        | none => if x = 0 then none else some (runsT (runsC x) ++ ⟨#[93]⟩)) := hid (by unfold elemS; rw [if_neg hf]; try (cases singleC x <;> rfl))
      replace hf := hid hf
      replace h0 := hid h0
      cases hsg : singleC x with
      | some b =>
        have hb : b < 256 := singleC_lt hsg
        have hE := hid (show elemV x = #[.string (writtenS b outsideSet), .bool true] from by unfold elemV; rw [hE0.out, hsg])
        have hS := hid (show ∀ w, Calls Try.prog 98 #[.agg #[.int .u64 (wd x 0), .int .u64 (wd x 1), .int .u64 (wd x 2), .int .u64 (wd x 3)]] w fun e w' => e = .returned (.tuple #[.int .u8 b, .bool true]) ∧ Chg Nothing w w' from fun w => by
          have := refSingle_any x w
          unfold singleV at this
          rw [hsg] at this; exact this)
        clear hsg
        go_enter Try.func83, Try.ntmps83
        go_wp2_with fail
        refine (refSizeL x _).mono ?_
        rintro e W1 ⟨rfl, hcS⟩
        have HX1 := hid (HX0.out.chg hcS id)
        have hC1 := hid (hC0.out.trans hcS)
        clear hcS r0 r1 r2 r3 f0 f1 f2 f3 hlt
        obtain ⟨r0, r1, r2, r3, f0, f1, f2, f3, hlt⟩ := CBox.at_ HX1.out
        go_wp2_with fail
        refine (refSizeL x _).mono ?_
        rintro e W2 ⟨rfl, hcS⟩
        have HX2 := hid (HX1.out.chg hcS id)
        have hC2 := hid (hC1.out.trans hcS)
        clear hcS r0 r1 r2 r3 f0 f1 f2 f3 hlt
        obtain ⟨r0, r1, r2, r3, f0, f1, f2, f3, hlt⟩ := CBox.at_ HX2.out
        go_wp2_with fail
        refine (hS.out _).mono ?_
        rintro e w4 ⟨rfl, hc4⟩
        go_wp2_with fail
        refine (refWritten_any b outsideSet _ (by omega) (by decide)).mono ?_
        rintro e w5 ⟨rfl, hc5⟩
        go_wp2
        go_ret2
        exact ⟨by rw [hE.out]; rfl, (hC2.out.trans hc4).trans hc5⟩
      | none =>
        have hE := hid (show elemV x = #[.string (runsT (runsC x) ++ ⟨#[93]⟩), .bool true] from by unfold elemV; rw [hE0.out, hsg]; simp only []; rw [if_neg h0.out])
        have hS := hid (show ∀ w, Calls Try.prog 98 #[.agg #[.int .u64 (wd x 0), .int .u64 (wd x 1), .int .u64 (wd x 2), .int .u64 (wd x 3)]] w fun e w' => e = .returned (.tuple #[.int .u8 0, .bool false]) ∧ Chg Nothing w w' from fun w => by
          have := refSingle_any x w
          unfold singleV at this
          rw [hsg] at this; exact this)
        clear hsg
        go_enter Try.func83, Try.ntmps83
        go_wp2_with fail
        refine (refSizeL x _).mono ?_
        rintro e W1 ⟨rfl, hcS⟩
        have HX1 := hid (HX0.out.chg hcS id)
        have hC1 := hid (hC0.out.trans hcS)
        clear hcS r0 r1 r2 r3 f0 f1 f2 f3 hlt
        obtain ⟨r0, r1, r2, r3, f0, f1, f2, f3, hlt⟩ := CBox.at_ HX1.out
        go_wp2_with fail
        refine (refSizeL x _).mono ?_
        rintro e W2 ⟨rfl, hcS⟩
        have HX2 := hid (HX1.out.chg hcS id)
        have hC2 := hid (hC1.out.trans hcS)
        clear hcS r0 r1 r2 r3 f0 f1 f2 f3 hlt
        obtain ⟨r0, r1, r2, r3, f0, f1, f2, f3, hlt⟩ := CBox.at_ HX2.out
        go_wp2_with fail
        refine (hS.out _).mono ?_
        rintro e w4 ⟨rfl, hc4⟩
        have HX4 := hid (Blk.chg HX2.out hc4 id)
        clear r0 r1 r2 r3 f0 f1 f2 f3 hlt
        obtain ⟨r0, r1, r2, r3, f0, f1, f2, f3, hlt4⟩ := CBox.at_ HX4.out
        have hC4 := hid (hC2.out.trans hc4)
        clear hc4
        go_wp2_with fail
        refine (refRuns_any x _).mono ?_
        rintro e w5 ⟨A, n, c, rfl, hrl, hown, hc5⟩
        have hC5 := hid (hC4.out.trans hc5)
        have HR5 := hid ((RowAt.of_own hown).mono (G := fun j => j < w5.heap.size) (fun j hj _ => hj))
        replace hrl := hid hrl
        clear hown hc5 r0 r1 r2 r3 f0 f1 f2 f3 hlt4 HX4 HX2 HX1 HX0 hC4 hC2 hC1 hC0
        go_wp2_with fail
        have hrn : n ≤ 256 := by have := runsTo_len x 256; have h2 := hrl.out; unfold runsC at h2; omega
        go_loopw [6, 8] (fun ov iv wr => ElInv x w A n c ov iv wr) (fun _ iv _ => n - (intOf iv).toNat)
        case atStart => exact ⟨0, Nat.zero_le _, rfl, rfl, HR5, hC5.out⟩
        case round =>
          clear HR5 hC5 hS
          obtain ⟨k, hk, rfl, rfl, HR, hchg⟩ := hrel
          rcases Nat.lt_or_ge k n with hkn | hkn
          · obtain ⟨g, o, rfl, hg, hgl, hcell⟩ := HR.out.cell hkn (by decide)
            have hc0 := hcell 0 (by decide)
            have hc1 := hcell 1 (by decide)
            rw [encR_at _ k 0 (by rw [hrl.out]; exact hkn) (by decide)] at hc0
            rw [encR_at _ k 1 (by rw [hrl.out]; exact hkn) (by decide)] at hc1
            have hrk := runs_ok x 256 ((runsC x).getD k (0, 0)) (by
              rw [List.getD_eq_getElem?_getD, List.getElem?_eq_getElem (by rw [hrl.out]; exact hkn)]
              exact List.getElem_mem _)
            have hT := hid (runsTake (runsC x) k (by rw [hrl.out]; exact hkn))
            generalize (runsC x).getD k (0, 0) = rr at hc0 hc1 hrk hT
            obtain ⟨f, t⟩ := rr
            simp only [encR] at hc0 hc1
            simp only [List.getD_cons_zero, List.getD_cons_succ] at hc0 hc1
            simp only at hrk
            replace hc0 : wr.cell? ⟨g, o + k * 2, none⟩ = some (.int .u8 f) := hc0
            replace hc1 : wr.cell? ⟨g, o + k * 2 + 1, none⟩ = some (.int .u8 t) := hc1
            clear hcell hg
            have hso := (runsT_go ((runsC x).take k) ⟨#[91]⟩).2
            have hso : (runsT ((runsC x).take k)).size ≤ 3000 := by
              have h1 : (⟨#[91]⟩ : ByteArray).size = 1 := rfl
              have h2 : ((runsC x).take k).length ≤ k := List.length_take_le _ _
              unfold runsT; omega
            generalize hOut : runsT ((runsC x).take k) = out at hso hT
            replace hOut := hid hOut
            have hw1 := (writtenS_size f insideSet).2
            have hw2 := (writtenS_size t insideSet).2
            have hbf : (f : Int) < 256 := by omega
            have hbt : (t : Int) < 256 := by omega
            have ku : True := trivial
            have hcase : t = f ∨ t = f + 1 ∨ f + 1 < t := by omega
            rcases hcase with ht | ht | ht
            · have hR := hid (show runT out (f, t) = out ++ writtenS f insideSet from by unfold runT; simp only []; rw [if_neg (by omega), if_neg (by omega)])
              have ht1 : ¬ (f : Int) + 1 < (t : Int) := by omega
              have ht2 : ¬ (f : Int) < (t : Int) := by omega
              replace ht := hid ht
              go_wp2_with fail
              refine (refWritten_any f insideSet _ hbf (by decide)).mono ?_
              rintro e w6 ⟨rfl, hc⟩
              have HR6 := hid (HR.out.chg hc (fun _ _ _ h => h))
              have hC6 := hid (hchg.trans hc)
              have d0 : w6.cell? ⟨g, o + k * 2, none⟩ = some (.int .u8 f) := (hc.cells.1 _ _ hgl).trans hc0
              have d1 : w6.cell? ⟨g, o + k * 2 + 1, none⟩ = some (.int .u8 t) := (hc.cells.1 _ _ hgl).trans hc1
              have hgl6 : g < w6.heap.size := Nat.lt_of_lt_of_le hgl hc.size
              clear hc HR hchg hc0 hc1
              go_wp2
              go_roundw
              case rel => exact ⟨k + 1, hkn, by go_num, by rw [hT.out, hR.out], hid (HR6.out.mono (fun j hj _ => hj)), hC6.out⟩
              case measure => simp [intOf]; omega
            · have hR := hid (show runT out (f, t) = (out ++ writtenS f insideSet) ++ writtenS t insideSet from by unfold runT; simp only []; rw [if_pos (by omega), if_neg (by omega)])
              have ht1 : ¬ (f : Int) + 1 < (t : Int) := by omega
              have ht2 : (f : Int) < (t : Int) := by omega
              replace ht := hid ht
              go_wp2_with fail
              refine (refWritten_any f insideSet _ hbf (by decide)).mono ?_
              rintro e w6 ⟨rfl, hc⟩
              have HR6 := hid (HR.out.chg hc (fun _ _ _ h => h))
              have hC6 := hid (hchg.trans hc)
              have d0 : w6.cell? ⟨g, o + k * 2, none⟩ = some (.int .u8 f) := (hc.cells.1 _ _ hgl).trans hc0
              have d1 : w6.cell? ⟨g, o + k * 2 + 1, none⟩ = some (.int .u8 t) := (hc.cells.1 _ _ hgl).trans hc1
              have hgl6 : g < w6.heap.size := Nat.lt_of_lt_of_le hgl hc.size
              clear hc HR hchg hc0 hc1
              go_wp2_with fail
              refine (refWritten_any t insideSet _ hbt (by decide)).mono ?_
              rintro e w7 ⟨rfl, hc⟩
              have HR7 := hid (HR6.out.chg hc (fun _ _ _ h => h))
              have hC7 := hid (hC6.out.trans hc)
              clear hc HR6 hC6 d0 d1
              go_wp2
              go_roundw
              case rel => exact ⟨k + 1, hkn, by go_num, by rw [hT.out, hR.out], hid (HR7.out.mono (fun j hj _ => hj)), hC7.out⟩
              case measure => simp [intOf]; omega
            · have hR := hid (show runT out (f, t) = ((out ++ writtenS f insideSet) ++ ⟨#[45]⟩) ++ writtenS t insideSet from by unfold runT; simp only []; rw [if_pos (by omega), if_pos (by omega)])
              have ht1 : (f : Int) + 1 < (t : Int) := by omega
              have ht2 : (f : Int) < (t : Int) := by omega
              have hdz : (⟨#[45]⟩ : ByteArray).size ≤ 1 := Nat.le_refl 1
              go_wp2_with fail
              refine (refWritten_any f insideSet _ hbf (by decide)).mono ?_
              rintro e w6 ⟨rfl, hc⟩
              have HR6 := hid (HR.out.chg hc (fun _ _ _ h => h))
              have hC6 := hid (hchg.trans hc)
              have d0 : w6.cell? ⟨g, o + k * 2, none⟩ = some (.int .u8 f) := (hc.cells.1 _ _ hgl).trans hc0
              have d1 : w6.cell? ⟨g, o + k * 2 + 1, none⟩ = some (.int .u8 t) := (hc.cells.1 _ _ hgl).trans hc1
              have hgl6 : g < w6.heap.size := Nat.lt_of_lt_of_le hgl hc.size
              clear hc HR hchg hc0 hc1
              go_wp2_with fail
              refine (refWritten_any t insideSet _ hbt (by decide)).mono ?_
              rintro e w7 ⟨rfl, hc⟩
              have HR7 := hid (HR6.out.chg hc (fun _ _ _ h => h))
              have hC7 := hid (hC6.out.trans hc)
              clear hc HR6 hC6 d0 d1
              go_wp2
              go_roundw
              case rel => exact ⟨k + 1, hkn, by go_num, by rw [hT.out, hR.out], hid (HR7.out.mono (fun j hj _ => hj)), hC7.out⟩
              case measure => simp [intOf]; omega
          · have hkn' : k = n := by omega
            subst hkn'
            have hall := hid (show (runsC x).take k = runsC x from List.take_of_length_le (by rw [hrl.out]; exact Nat.le_refl _))
            rw [hall.out]
            have hgo := runsT_go (runsC x) ⟨#[91]⟩
            have h91 : (⟨#[91]⟩ : ByteArray).size = 1 := rfl
            have hrl' := hrl.out
            have hsz : (runsT (runsC x)).size ≤ 3000 := by unfold runsT; omega
            obtain ⟨out, hout⟩ : ∃ out, out = runsT (runsC x) := ⟨_, rfl⟩
            rw [← hout] at hsz ⊢
            replace hout := hid hout
            clear hgo hrl' h91
            go_wp2
            go_ret2
            exact ⟨by rw [hE.out, ← hout.out]; rfl, hchg⟩
end Go.Proofs.Ytllblpiakijpaaa

/- Layer 13: printing: the program's Print. -/
namespace Go.Proofs.Ytllblpiakijpaaa
open Go.RowKit
set_option linter.unusedVariables false
attribute [local go_sem ↓] Go.wp_at_zero Go.wp_at_succ
def sgnS (kd : Int) : ByteArray := signSet.extract (kd.toNat - 1) kd.toNat
def elemD (x : Cls) : ByteArray := (elemS x).getD ByteArray.empty
def elemsT (xs : List Cls) : ByteArray := xs.foldl (fun out x => out ++ elemD x) ⟨#[34]⟩
def printS (kd n : Int) (xs : List Cls) : Option ByteArray :=
  if kd < 1 ∨ 8 < kd ∨ n < 0 ∨ 1000000 < n then none
  else if kd = 8 then (if n = 0 ∧ rightB xs 0 = true then some (elemsT xs ++ ⟨#[34]⟩) else none)
  else if 0 < xs.length then none
  else if 6 ≤ kd then some (sgnS kd ++ decS n.toNat)
  else if n = 0 then some (sgnS kd) else none
def printV (o : Option ByteArray) : Array Value := match o with
  | some t => #[.string t, .bool true]
  | none => #[.string ByteArray.empty, .bool false]
set_option maxHeartbeats 8000000 in
set_option maxRecDepth 100000 in
theorem tokPrint_out (kd at_ n : Int) (P : Value) (hP : P.oneCell' = true) (w : World) (h : kd < 1 ∨ 8 < kd ∨ n < 0 ∨ 1000000 < n) (hx : P.cells = #[P]) :
    Calls Try.prog 81 #[.agg #[.int .i64 kd, .int .i64 at_, .int .i64 n, P]] w fun e w' => e = .returned (.tuple (printV none)) ∧ Chg Nothing w w' := by
  have h' : kd < 1 ∨ (1 ≤ kd ∧ 8 < kd) ∨ (1 ≤ kd ∧ kd ≤ 8 ∧ n < 0) ∨ (1 ≤ kd ∧ kd ≤ 8 ∧ 0 ≤ n ∧ 1000000 < n) := by omega
  have h6 : kd = 6 ∨ kd ≠ 6 := by omega
  have h7 : kd = 7 ∨ kd ≠ 7 := by omega
  have hX := Blk.new w #[.int .i64 kd, .int .i64 at_, .int .i64 n, P] 76
  have x0 := hX.cell 0 rfl
  have x2 := hX.cell 2 rfl
  clear hX h
  rcases h' with a | ⟨a, b⟩ | ⟨a, b, c⟩ | ⟨a, b, c, d⟩
  all_goals
    go_enter Try.func81, Try.ntmps81
    go_wp2
    all_goals
      go_ret2
      exact ⟨rfl, (Chg.refl _ _).alloc _⟩
set_option maxHeartbeats 8000000 in
set_option maxRecDepth 100000 in
/-- Not of a kind that has a number, and there is one; or elements that are none of its own. -/
theorem tokPrint_odd (kd at_ n : Int) (A : Option Addr) (l c : Nat) (w : World) (h1 : 1 ≤ kd) (h8 : kd ≤ 8) (hn0 : 0 ≤ n) (hn : n ≤ 1000000) (h : (kd ≠ 6 ∧ kd ≠ 7 ∧ n ≠ 0) ∨ ((kd = 6 ∨ kd = 7 ∨ n = 0) ∧ kd ≠ 8 ∧ 0 < l)) :
    Calls Try.prog 81 #[.agg #[.int .i64 kd, .int .i64 at_, .int .i64 n, .slice A l c]] w fun e w' => e = .returned (.tuple (printV none)) ∧ Chg Nothing w w' := by
  have hX := Blk.new w #[.int .i64 kd, .int .i64 at_, .int .i64 n, .slice A l c] 76
  have HX := hid hX
  have x0 := hX.cell 0 rfl
  have x2 := hX.cell 2 rfl
  have x3 := hX.cell 3 rfl
  have hlx := hX.lt
  clear hX
  rcases h with ⟨a, b, c1⟩ | ⟨a, b, c1⟩
  · have k6 : (kd == 6) = false := beq_eq_false_iff_ne.2 a
    have k7 : (kd == 7) = false := beq_eq_false_iff_ne.2 b
    have kn : (n != 0) = true := by rw [bne_iff_ne]; exact c1
    go_enter Try.func81, Try.ntmps81
    go_wp2
    go_ret2
    exact ⟨rfl, (Chg.refl _ _).alloc _⟩
  · have k8 : (kd != 8) = true := by rw [bne_iff_ne]; exact b
    have hl : (0 : Int) < (l : Int) := by omega
    have hcs : (kd = 6) ∨ (kd ≠ 6 ∧ kd = 7) ∨ (kd ≠ 6 ∧ kd ≠ 7 ∧ n = 0) := by omega
    rcases hcs with a1 | ⟨a1, a2⟩ | ⟨a1, a2, a3⟩
    · have k6 : (kd == 6) = true := beq_iff_eq.2 a1
      replace a1 := hid a1
      clear a
      go_enter Try.func81, Try.ntmps81
      go_wp2
      go_ret2
      exact ⟨rfl, (Chg.refl _ _).alloc _⟩
    · have k6 : (kd == 6) = false := beq_eq_false_iff_ne.2 a1
      have k7 : (kd == 7) = true := beq_iff_eq.2 a2
      replace a2 := hid a2
      clear a
      go_enter Try.func81, Try.ntmps81
      go_wp2
      go_ret2
      exact ⟨rfl, (Chg.refl _ _).alloc _⟩
    · have k6 : (kd == 6) = false := beq_eq_false_iff_ne.2 a1
      have k7 : (kd == 7) = false := beq_eq_false_iff_ne.2 a2
      have kn : (n != 0) = false := by rw [a3]; rfl
      replace a3 := hid a3
      clear a
      go_enter Try.func81, Try.ntmps81
      go_wp2
      go_ret2
      exact ⟨rfl, (Chg.refl _ _).alloc _⟩
set_option maxHeartbeats 8000000 in
set_option maxRecDepth 100000 in
/-- A sign alone. -/
theorem tokPrint_sign (kd at_ : Int) (A : Option Addr) (c : Nat) (w : World) (h1 : 1 ≤ kd) (h5 : kd ≤ 5) :
    Calls Try.prog 81 #[.agg #[.int .i64 kd, .int .i64 at_, .int .i64 0, .slice A 0 c]] w fun e w' => e = .returned (.tuple (printV (some (sgnS kd)))) ∧ Chg Nothing w w' := by
  have hX := Blk.new w #[.int .i64 kd, .int .i64 at_, .int .i64 0, .slice A 0 c] 76
  have HX := hid hX
  have x0 := hX.cell 0 rfl
  have x2 := hX.cell 2 rfl
  have x3 := hX.cell 3 rfl
  have hlx := hX.lt
  clear hX
  have k6 : (kd == 6) = false := by rw [beq_eq_false_iff_ne]; omega
  have k7 : (kd == 7) = false := by rw [beq_eq_false_iff_ne]; omega
  have k8 : (kd != 8) = true := by rw [bne_iff_ne]; omega
  have k8' : (kd == 8) = false := by rw [beq_eq_false_iff_ne]; omega
  have e1 := IntWalk.i64_in (kd - 1) (by omega)
  go_enter Try.func81, Try.ntmps81
  go_wp2_with fail
  try go_quiet (fail)
  go_wp2
  go_ret2
  exact ⟨rfl, by repeat (first | exact Chg.refl _ _ | with_reducible apply Chg.drewN | with_reducible apply Chg.drew | with_reducible apply Chg.alloc)⟩
end Go.Proofs.Ytllblpiakijpaaa

/- Layer 13: printing: the program's Print of tokens with a number, and of patterns. -/
namespace Go.Proofs.Ytllblpiakijpaaa
open Go.RowKit
set_option linter.unusedVariables false
attribute [local go_sem ↓] Go.wp_at_zero Go.wp_at_succ
/-- The right test of a pattern's elements. -/
theorem right_tok (F : Nat → Prop) (A : Option Addr) (l c : Nat) (xs : List Cls) (H : Hid (xs.length = l)) (r : Bool) (hr : rightB xs 0 = r) : Hid (∀ w, ClsRow F w A l c xs → Calls Try.prog 56 #[.agg #[.slice A l c, .int .i64 0]] w fun e w' => e = .returned (.bool r) ∧ Chg Nothing w w') :=
  hid fun w h => by have := leafRight_any F A l c xs 0 w h H.out; rw [hr] at this; exact this
set_option maxHeartbeats 8000000 in
set_option maxRecDepth 100000 in
theorem tokPrint_wrong (F : Nat → Prop) (at_ : Int) (A : Option Addr) (l c : Nat) (xs : List Cls) (w : World) (H : ClsRow F w A l c xs) (hl : xs.length = l) (hr : rightB xs 0 = false) :
    Calls Try.prog 81 #[.agg #[.int .i64 8, .int .i64 at_, .int .i64 0, .slice A l c]] w fun e w' => e = .returned (.tuple (printV none)) ∧ Chg Nothing w w' := by
  have hX := Blk.new w #[.int .i64 8, .int .i64 at_, .int .i64 0, .slice A l c] 76
  have HX := hid hX
  have x0 := hX.cell 0 rfl
  have x2 := hX.cell 2 rfl
  have x3 := hX.cell 3 rfl
  have hlx := hX.lt
  clear hX
  have hR := right_tok F A l c xs (hid hl) false hr
  have H1 := hid (H.chg ((Chg.refl Nothing w).alloc (.cells #[.int .i64 8, .int .i64 at_, .int .i64 0, .slice A l c] 76)) (fun _ _ _ h => h))
  clear H hl hr
  go_enter Try.func81, Try.ntmps81
  go_wp2_with fail
  refine (hR.out _ H1.out).mono ?_
  rintro e w1 ⟨rfl, hc⟩
  go_wp2
  go_ret2
  exact ⟨rfl, ((Chg.refl Nothing w).alloc _).trans hc⟩
set_option maxHeartbeats 8000000 in
set_option maxRecDepth 100000 in
/-- A sign, and a number. -/
theorem tokPrint_num (kd at_ : Int) (n : Nat) (A : Option Addr) (c : Nat) (w : World) (h : kd = 6 ∨ kd = 7) (hn : n ≤ 1000000) :
    Calls Try.prog 81 #[.agg #[.int .i64 kd, .int .i64 at_, .int .i64 n, .slice A 0 c]] w fun e w' => e = .returned (.tuple (printV (some (sgnS kd ++ decS n)))) ∧ Chg Nothing w w' := by
  have hds : (decS n).size ≤ 1000001 := by have := decS_size n; omega
  have hss : (sgnS kd).size ≤ 7 := by unfold sgnS; simp; have : signSet.size = 7 := rfl; omega
  rcases h with rfl | rfl
  · have hX := Blk.new w #[.int .i64 6, .int .i64 at_, .int .i64 n, .slice A 0 c] 76
    have HX := hid hX
    have x0 := hX.cell 0 rfl
    have x2 := hX.cell 2 rfl
    have x3 := hX.cell 3 rfl
    have hlx := hX.lt
    clear hX
    go_enter Try.func81, Try.ntmps81
    go_wp2_with fail
    go_region_with (first | (go_at_call 95; (with_reducible refine (tokDigits_any n (by omega) _).mono ?_); rintro e w3 ⟨rfl, hcx⟩; have y0 := (hcx.cells.1 _ _ hlx).trans x0; have y2 := (hcx.cells.1 _ _ hlx).trans x2; have hcy := hid hcx; clear hcx))
    all_goals
      go_wp2
      go_ret2
      exact ⟨rfl, (((Chg.refl Nothing w).alloc _).drew).trans hcy.out⟩
  · have hX := Blk.new w #[.int .i64 7, .int .i64 at_, .int .i64 n, .slice A 0 c] 76
    have HX := hid hX
    have x0 := hX.cell 0 rfl
    have x2 := hX.cell 2 rfl
    have x3 := hX.cell 3 rfl
    have hlx := hX.lt
    clear hX
    go_enter Try.func81, Try.ntmps81
    go_wp2_with fail
    go_region_with (first | (go_at_call 95; (with_reducible refine (tokDigits_any n (by omega) _).mono ?_); rintro e w3 ⟨rfl, hcx⟩; have y0 := (hcx.cells.1 _ _ hlx).trans x0; have y2 := (hcx.cells.1 _ _ hlx).trans x2; have hcy := hid hcx; clear hcx))
    all_goals
      go_wp2
      go_ret2
      exact ⟨rfl, (((Chg.refl Nothing w).alloc _).drew).trans hcy.out⟩
end Go.Proofs.Ytllblpiakijpaaa

/- Layer 13: printing: the program's Print of patterns. -/
namespace Go.Proofs.Ytllblpiakijpaaa
open Go.RowKit
set_option linter.unusedVariables false
attribute [local go_sem ↓] Go.wp_at_zero Go.wp_at_succ
theorem elem_some {x : Cls} (h : x ≠ 0) : elemV x = #[.string (elemD x), .bool true] := by
  unfold elemV elemD elemS
  by_cases hf : x = fullC
  · rw [if_pos hf]; rfl
  · rw [if_neg hf]
    cases singleC x with
    | some b => rfl
    | none => simp only []; rw [if_neg h]; rfl
theorem elemD_size (x : Cls) : (elemD x).size ≤ 3000 := by
  unfold elemD elemS
  by_cases hf : x = fullC
  · rw [if_pos hf]; decide
  · rw [if_neg hf]
    cases singleC x with
    | some b => have := (writtenS_size b outsideSet).2; simp only [Option.getD_some]; omega
    | none =>
      simp only []
      by_cases h : x = 0
      · rw [if_pos h]; decide
      · rw [if_neg h]
        have h1 := (runsT_go (runsC x) ⟨#[91]⟩).2
        have h2 := runsTo_len x 256
        have h3 : (⟨#[91]⟩ : ByteArray).size = 1 := rfl
        have h4 : (⟨#[93]⟩ : ByteArray).size = 1 := rfl
        simp only [Option.getD_some, ByteArray.size_append]
        unfold runsT
        unfold runsC at h1 ⊢
        omega
theorem elemsT_take (xs : List Cls) (k : Nat) (h : k < xs.length) : elemsT (xs.take (k + 1)) = elemsT (xs.take k) ++ elemD (xs.getD k 0) := by
  unfold elemsT
  rw [List.take_succ_eq_append_getElem h, List.foldl_append]
  simp [h]
theorem elemsT_size (xs : List Cls) : ∀ (out : ByteArray), (xs.foldl (fun out x => out ++ elemD x) out).size ≤ out.size + 3000 * xs.length := by
  induction xs with
  | nil => intro out; simp
  | cons x xs ih =>
    intro out
    have h1 := ih (out ++ elemD x)
    have h2 := elemD_size x
    simp only [List.foldl_cons, List.length_cons]
    rw [ByteArray.size_append] at h1
    omega
def PpInv (xs : List Cls) (w : World) (ov iv : Value) (wr : World) : Prop := ∃ k : Nat, k ≤ xs.length ∧ iv = .int .i64 k ∧ ov = .string (elemsT (xs.take k)) ∧ Chg Nothing w wr
set_option maxHeartbeats 8000000 in
set_option maxRecDepth 100000 in
theorem tokPrint_pat (F : Nat → Prop) (at_ : Int) (A : Option Addr) (l c : Nat) (xs : List Cls) (w : World) (H : ClsRow F w A l c xs) (hl : xs.length = l) (hr : rightB xs 0 = true) :
    Calls Try.prog 81 #[.agg #[.int .i64 8, .int .i64 at_, .int .i64 0, .slice A l c]] w fun e w' => e = .returned (.tuple (printV (some (elemsT xs ++ ⟨#[34]⟩)))) ∧ Chg Nothing w w' := by
  have hX := Blk.new w #[.int .i64 8, .int .i64 at_, .int .i64 0, .slice A l c] 76
  have x0 := hX.cell 0 rfl
  have x2 := hX.cell 2 rfl
  have x3 := hX.cell 3 rfl
  have hlx := hX.lt
  clear hX
  have hR := right_tok F A l c xs (hid hl) true hr
  have hrt := hid (show 1 ≤ l ∧ l ≤ 64 ∧ (0 : Cls) ∉ xs from by unfold rightB at hr; have := of_decide_eq_true hr; rw [hl] at this; exact ⟨this.1, this.2.1, this.2.2.1⟩)
  have hl64 : l ≤ 64 := hrt.out.2.1
  have hlh := hid hl
  have hle := H.le
  have hmx := H.max
  have H0 := hid H
  have H1 := hid (H.chg ((Chg.refl Nothing w).alloc (.cells #[.int .i64 8, .int .i64 at_, .int .i64 0, .slice A l c] 76)) (fun _ _ _ h => h))
  clear H hl hr
  go_enter Try.func81, Try.ntmps81
  go_wp2_with fail
  refine (hR.out _ H1.out).mono ?_
  rintro e w1 ⟨rfl, hc⟩
  have y0 := (hc.cells.1 _ _ hlx).trans x0
  have y2 := (hc.cells.1 _ _ hlx).trans x2
  have y3 := (hc.cells.1 _ _ hlx).trans x3
  have hC1 := hid (((Chg.refl Nothing w).alloc (.cells #[.int .i64 8, .int .i64 at_, .int .i64 0, .slice A l c] 76)).trans hc)
  clear hc x0 x2 x3 H1 hR
  go_wp2_with fail
  go_loopw [5, 84] (fun ov iv wr => PpInv xs w ov iv wr) (fun _ iv _ => l - (intOf iv).toNat)
  case atStart => exact ⟨0, Nat.zero_le _, rfl, rfl, hC1.out⟩
  case round =>
    clear y0 y2 y3 hlx
    obtain ⟨k, hk, rfl, rfl, hchg⟩ := hrel
    rw [hlh.out] at hk
    rcases Nat.lt_or_ge k l with hkn | hkn
    · obtain ⟨g, o, rfl, -, hgl, c0, c1, c2, c3⟩ := ClsRow.four (H0.out.chg hchg (fun _ _ _ h => h)) hlh.out hkn
      have hmem := hid (show xs.getD k 0 ∈ xs from by
        rw [List.getD_eq_getElem?_getD, List.getElem?_eq_getElem (by rw [hlh.out]; exact hkn)]
        exact List.getElem_mem _)
      have hT := hid (elemsT_take xs k (by rw [hlh.out]; exact hkn))
      obtain ⟨y, hy⟩ : ∃ y, y = xs.getD k 0 := ⟨_, rfl⟩
      rw [← hy] at c0 c1 c2 c3 hmem hT
      have hy0 : Hid (y ≠ 0) := hid (fun e => hrt.out.2.2 (e ▸ hmem.out))
      replace hy := hid hy
      have hE := hid (show ∀ w, Calls Try.prog 96 #[.agg #[.int .u64 (wd y 0), .int .u64 (wd y 1), .int .u64 (wd y 2), .int .u64 (wd y 3)]] w fun e w' => e = .returned (.tuple #[.string (elemD y), .bool true]) ∧ Chg Nothing w w' from fun w => by have := tokElement_any y w; rw [elem_some hy0.out] at this; exact this)
      have hds := elemD_size y
      have hos : (elemsT (xs.take k)).size ≤ 200000 := by
        have h1 := elemsT_size (xs.take k) ⟨#[34]⟩
        have h2 : (xs.take k).length ≤ k := List.length_take_le _ _
        have h3 : (⟨#[34]⟩ : ByteArray).size = 1 := rfl
        unfold elemsT; omega
      obtain ⟨out, hout⟩ : ∃ out, out = elemsT (xs.take k) := ⟨_, rfl⟩
      rw [← hout] at hos hT ⊢
      replace hout := hid hout
      have hk0 : (0 : Int) ≤ (k : Int) := by omega
      have hkl : (k : Int) < (l : Int) := by omega
      go_wp2_with fail
      refine (hE.out _).mono ?_
      rintro e w6 ⟨rfl, hc⟩
      have hC6 := hid ((hchg.alloc (.cells #[.int .u64 (wd y 0), .int .u64 (wd y 1), .int .u64 (wd y 2), .int .u64 (wd y 3)] 70)).trans hc)
      clear hc hchg c0 c1 c2 c3
      go_wp2
      go_roundw
      case rel => exact ⟨k + 1, by rw [hlh.out]; exact hkn, by go_num, by rw [hT.out], hC6.out⟩
      case measure => simp [intOf]; omega
    · have hd : decide ((k : Int) < (l : Int)) = false := decide_eq_false (by omega)
      have hall := hid (show xs.take k = xs from List.take_of_length_le (by rw [hlh.out]; exact hkn))
      rw [hall.out]
      have hos : (elemsT xs).size ≤ 200000 := by
        have h1 := elemsT_size xs ⟨#[34]⟩
        have h3 : (⟨#[34]⟩ : ByteArray).size = 1 := rfl
        have h2 := hlh.out
        unfold elemsT; omega
      obtain ⟨out, hout⟩ : ∃ out, out = elemsT xs := ⟨_, rfl⟩
      rw [← hout] at hos ⊢
      replace hout := hid hout
      go_wp2
      go_ret2
      exact ⟨by rw [← hout.out]; rfl, hchg⟩
end Go.Proofs.Ytllblpiakijpaaa

/- Layer 13: printing: the document's Digits. -/
namespace Go.Proofs.Ytllblpiakijpaaa
open Go.RowKit
set_option linter.unusedVariables false
attribute [local go_sem ↓] Go.wp_at_zero Go.wp_at_succ
theorem dig_byte' : ∀ d : Fin 10, digS d.val = byteS (48 + d.val) := by decide +kernel
theorem dig_byte (d : Nat) (h : d < 10) : digS d = byteS (48 + d) := dig_byte' ⟨d, h⟩
def preD (m : Nat) : ByteArray := if m < 10 then ByteArray.empty else decS (m / 10)
theorem decS_pre (m : Nat) : decS m = preD m ++ byteS (48 + m % 10) := by
  unfold preD
  by_cases h : m < 10
  · rw [if_pos h, decS_few h, Nat.mod_eq_of_lt h, ByteArray.empty_append]
  · rw [if_neg h, decS_more h]
def RdInv (n : Nat) (w : World) (mv ov : Value) (wr : World) : Prop := ∃ (m : Nat) (out : ByteArray), m ≤ n ∧ mv = .int .i64 m ∧ ov = .string out ∧ Hid (decS n = preD m ++ out) ∧ out.size ≤ n - m + 1 ∧ wr = w
theorem refDigitB (z : Int) (n : Nat) (hz : z = n) (w : World) (hn : n < 10) :
    Calls Try.prog 84 #[.int .i64 z] w fun e w' => e = .returned (.string (byteS (48 + n))) ∧ w' = w := by
  rw [← dig_byte n hn]; exact refDigit_of z n hz w (by omega)
set_option maxHeartbeats 4000000 in
theorem refDigits_any (n : Nat) (hn : n ≤ 1000000000) (w : World) :
    Calls Try.prog 65 #[.int .i64 n] w fun e w' => e = .returned (.string (decS n)) ∧ w' = w := by
  have hp := hid (decS_pre n)
  have m1 : 0 ≤ (n : Int) % 10 := by omega
  have e0 := byteS_size (48 + n % 10)
  have e1 : (byteS (48 + n % 10)).size ≤ 1 := by omega
  clear e0
  go_enter Try.func65, Try.ntmps65
  go_wp2_with fail
  refine (refDigitB _ (n % 10) (by omega) _ (by omega)).mono ?_
  rintro e w' ⟨rfl, hw⟩
  subst hw
  go_wp2_with fail
  go_loopw [0, 3] (fun mv ov wr => RdInv n w' mv ov wr) (fun mv _ _ => (intOf mv).toNat)
  case atStart => exact ⟨n, _, Nat.le_refl _, rfl, rfl, hp, by omega, rfl⟩
  case round =>
    obtain ⟨m, out, hm, rfl, rfl, hd, hos, rfl⟩ := hrel
    rcases Nat.lt_or_ge m 10 with h | h
    · have hE := hid (show decS n = out from by rw [hd.out]; unfold preD; rw [if_pos h, ByteArray.empty_append])
      have hlt : ¬ (10 : Int) ≤ (m : Int) := by omega
      go_wp2
      go_ret
      exact ⟨by rw [hE.out]; rfl, rfl⟩
    · have hge : (10 : Int) ≤ (m : Int) := by omega
      have e0 := byteS_size (48 + m / 10 % 10)
      have e2 : (byteS (48 + m / 10 % 10)).size ≤ 1 := by omega
      have hnew := hid (show decS n = preD (m / 10) ++ (byteS (48 + m / 10 % 10) ++ out) from by
        rw [hd.out]
        have : preD m = decS (m / 10) := by unfold preD; rw [if_neg (by omega)]
        rw [this, decS_pre (m / 10), ByteArray.append_assoc])
      have hsz := hid (show (byteS (48 + m / 10 % 10) ++ out).size ≤ n - m / 10 + 1 from by rw [ByteArray.size_append]; omega)
      have m2 : 0 ≤ (m : Int) / 10 := by omega
      have m3 : 0 ≤ (m : Int) / 10 % 10 := by omega
      clear e0
      go_wp2_with fail
      refine (refDigitB _ (m / 10 % 10) (by omega) _ (by omega)).mono ?_
      rintro e w2 ⟨rfl, hw⟩
      subst hw
      go_wp2
      go_roundw
      case rel => exact ⟨m / 10, _, by omega, congrArg (Value.int .i64) (by omega), rfl, hnew, hsz.out, rfl⟩
      case measure => simp [intOf]; omega
end Go.Proofs.Ytllblpiakijpaaa

/- Layer 13: printing: the document's Print. -/
namespace Go.Proofs.Ytllblpiakijpaaa
open Go.RowKit
set_option linter.unusedVariables false
attribute [local go_sem ↓] Go.wp_at_zero Go.wp_at_succ
set_option maxHeartbeats 8000000 in
set_option maxRecDepth 100000 in
theorem refPrint_out (kd at_ n : Int) (P : Value) (hP : P.oneCell' = true) (w : World) (h : kd < 1 ∨ 8 < kd ∨ n < 0 ∨ 1000000 < n) (hx : P.cells = #[P]) :
    Calls Try.prog 64 #[.agg #[.int .i64 kd, .int .i64 at_, .int .i64 n, P]] w fun e w' => e = .returned (.tuple (printV none)) ∧ Chg Nothing w w' := by
  have h' : kd < 1 ∨ (1 ≤ kd ∧ 8 < kd) ∨ (1 ≤ kd ∧ kd ≤ 8 ∧ n < 0) ∨ (1 ≤ kd ∧ kd ≤ 8 ∧ 0 ≤ n ∧ 1000000 < n) := by omega
  have hX := Blk.new w #[.int .i64 kd, .int .i64 at_, .int .i64 n, P] 57
  have x0 := hX.cell 0 rfl
  have x2 := hX.cell 2 rfl
  clear hX h
  rcases h' with a | ⟨a, b⟩ | ⟨a, b, c⟩ | ⟨a, b, c, d⟩
  all_goals
    go_enter Try.func64, Try.ntmps64
    go_wp2
    all_goals
      go_ret2
      exact ⟨rfl, (Chg.refl _ _).alloc _⟩
set_option maxHeartbeats 8000000 in
set_option maxRecDepth 100000 in
theorem refPrint_few (at_ n : Int) (A : Option Addr) (l c : Nat) (w : World) (hn0 : 0 ≤ n) (hn : n ≤ 1000000) (h : n ≠ 0 ∨ (n = 0 ∧ l < 1) ∨ (n = 0 ∧ 64 < l)) :
    Calls Try.prog 64 #[.agg #[.int .i64 8, .int .i64 at_, .int .i64 n, .slice A l c]] w fun e w' => e = .returned (.tuple (printV none)) ∧ Chg Nothing w w' := by
  have hX := Blk.new w #[.int .i64 8, .int .i64 at_, .int .i64 n, .slice A l c] 57
  have x0 := hX.cell 0 rfl
  have x2 := hX.cell 2 rfl
  have x3 := hX.cell 3 rfl
  have hlx := hX.lt
  clear hX
  rcases h with h | ⟨h, h2⟩ | ⟨h, h2⟩
  · have hn1 : (n != 0) = true := by rw [bne_iff_ne]; exact h
    go_enter Try.func64, Try.ntmps64
    go_wp2
    go_ret2
    exact ⟨rfl, (Chg.refl _ _).alloc _⟩
  · have hn1 : (n != 0) = false := by rw [h]; rfl
    have hl : (l : Int) < 1 := by omega
    replace h := hid h
    go_enter Try.func64, Try.ntmps64
    go_wp2
    go_ret2
    exact ⟨rfl, (Chg.refl _ _).alloc _⟩
  · have hn1 : (n != 0) = false := by rw [h]; rfl
    have hl : ¬ (l : Int) < 1 := by omega
    have hl2 : (64 : Int) < (l : Int) := by omega
    replace h := hid h
    go_enter Try.func64, Try.ntmps64
    go_wp2
    go_ret2
    exact ⟨rfl, (Chg.refl _ _).alloc _⟩
set_option maxHeartbeats 8000000 in
set_option maxRecDepth 100000 in
theorem refPrint_none (kd at_ n : Int) (A : Option Addr) (l c : Nat) (w : World) (h1 : 1 ≤ kd) (h7 : kd ≤ 7) (hn0 : 0 ≤ n) (hn : n ≤ 1000000) (h : 0 < l ∨ (l = 0 ∧ kd ≤ 5 ∧ n ≠ 0)) :
    Calls Try.prog 64 #[.agg #[.int .i64 kd, .int .i64 at_, .int .i64 n, .slice A l c]] w fun e w' => e = .returned (.tuple (printV none)) ∧ Chg Nothing w w' := by
  have hX := Blk.new w #[.int .i64 kd, .int .i64 at_, .int .i64 n, .slice A l c] 57
  have x0 := hX.cell 0 rfl
  have x2 := hX.cell 2 rfl
  have x3 := hX.cell 3 rfl
  have hlx := hX.lt
  clear hX
  have k8 : (kd == 8) = false := by rw [beq_eq_false_iff_ne]; omega
  rcases h with h | ⟨h, h5, h2⟩
  · have hl : (0 : Int) < (l : Int) := by omega
    go_enter Try.func64, Try.ntmps64
    go_wp2
    go_ret2
    exact ⟨rfl, (Chg.refl _ _).alloc _⟩
  · have hn1 : (n != 0) = true := by rw [bne_iff_ne]; exact h2
    have hl : ¬ (0 : Int) < (l : Int) := by omega
    have h6 : ¬ (6 : Int) ≤ kd := by omega
    go_enter Try.func64, Try.ntmps64
    go_wp2
    go_ret2
    exact ⟨rfl, (Chg.refl _ _).alloc _⟩
set_option maxHeartbeats 8000000 in
set_option maxRecDepth 100000 in
theorem refPrint_sign (kd at_ : Int) (A : Option Addr) (l c : Nat) (w : World) (h1 : 1 ≤ kd) (h5 : kd ≤ 5) (hl : l = 0) :
    Calls Try.prog 64 #[.agg #[.int .i64 kd, .int .i64 at_, .int .i64 0, .slice A l c]] w fun e w' => e = .returned (.tuple (printV (some (sgnS kd)))) ∧ Chg Nothing w w' := by
  have hX := Blk.new w #[.int .i64 kd, .int .i64 at_, .int .i64 0, .slice A l c] 57
  have x0 := hX.cell 0 rfl
  have x2 := hX.cell 2 rfl
  have x3 := hX.cell 3 rfl
  have hlx := hX.lt
  clear hX
  have k8 : (kd == 8) = false := by rw [beq_eq_false_iff_ne]; omega
  have hl0 : ¬ (0 : Int) < (l : Int) := by omega
  have h6 : ¬ (6 : Int) ≤ kd := by omega
  have e1 := IntWalk.i64_in (kd - 1) (by omega)
  replace hl := hid hl
  go_enter Try.func64, Try.ntmps64
  go_wp2_with fail
  try go_quiet (fail)
  go_wp2
  go_ret2
  exact ⟨rfl, by repeat (first | exact Chg.refl _ _ | with_reducible apply Chg.drewN | with_reducible apply Chg.drew | with_reducible apply Chg.alloc)⟩
set_option maxHeartbeats 8000000 in
set_option maxRecDepth 100000 in
theorem refPrint_num (kd at_ : Int) (n : Nat) (A : Option Addr) (l c : Nat) (w : World) (h : kd = 6 ∨ kd = 7) (hn : n ≤ 1000000) (hl : l = 0) :
    Calls Try.prog 64 #[.agg #[.int .i64 kd, .int .i64 at_, .int .i64 n, .slice A l c]] w fun e w' => e = .returned (.tuple (printV (some (sgnS kd ++ decS n)))) ∧ Chg Nothing w w' := by
  have hds : (decS n).size ≤ 1000001 := by have := decS_size n; omega
  have hss : (sgnS kd).size ≤ 7 := by unfold sgnS; simp; have : signSet.size = 7 := rfl; omega
  have hX := Blk.new w #[.int .i64 kd, .int .i64 at_, .int .i64 n, .slice A l c] 57
  have x0 := hX.cell 0 rfl
  have x2 := hX.cell 2 rfl
  have x3 := hX.cell 3 rfl
  have hlx := hX.lt
  clear hX
  have hl0 : ¬ (0 : Int) < (l : Int) := by omega
  have hn0 : (0 : Int) ≤ (n : Int) := by omega
  have hn1 : (n : Int) ≤ 1000000 := by omega
  replace hl := hid hl
  replace x0 := Calm.cell hlx x0
  replace x2 := Calm.cell hlx x2
  replace x3 := Calm.cell hlx x3
  clear hlx
  have y0 := x0 ⟨_, Chg.refl _ _⟩
  have y2 := x2 ⟨_, Chg.refl _ _⟩
  have y3 := x3 ⟨_, Chg.refl _ _⟩
  rcases h with rfl | rfl
  all_goals
    go_enter Try.func64, Try.ntmps64
    go_wp2_with fail
    try simp only [List.append_eq, List.cons_append, List.nil_append]
    refine wp_region_calm_lit (by kernel_rfl) (by kernel_rfl) ?_
    repeat (go_big_quiet_step (((go_at_call 65; exact calm_same (refDigits_any n (by omega) _)))))
    refine wpQuiet_nil ?_
    intro _ hw'
    obtain ⟨nq, hw''⟩ := hw'
    subst hw''
    go_wp2
    go_ret2
    exact ⟨rfl, ((Chg.refl _ _).alloc _).trans nq.chg⟩
/-- The text of a pattern, if it has one. -/
def patO (xs : List Cls) : Option ByteArray := if rightB xs 0 = true then some (elemsT xs ++ ⟨#[34]⟩) else none
theorem patO_no {xs : List Cls} (h : rightB xs 0 = false) : patO xs = none := by unfold patO; rw [h]; rfl
theorem patO_yes {xs : List Cls} (h : rightB xs 0 = true) : patO xs = some (elemsT xs ++ ⟨#[34]⟩) := by unfold patO; rw [h]; rfl
/-- The texts of elements, one behind the other. -/
def elemsO (xs : List Cls) : ByteArray := xs.foldl (fun out x => out ++ elemD x) ByteArray.empty
theorem elemsO_take (xs : List Cls) (k : Nat) (h : k < xs.length) : elemsO (xs.take (k + 1)) = elemsO (xs.take k) ++ elemD (xs.getD k 0) := by
  unfold elemsO
  rw [List.take_succ_eq_append_getElem h, List.foldl_append]
  simp [h]
theorem elemsO_app (xs : List Cls) : ∀ (a b : ByteArray), xs.foldl (fun out x => out ++ elemD x) (a ++ b) = a ++ xs.foldl (fun out x => out ++ elemD x) b := by
  induction xs with
  | nil => intro a b; rfl
  | cons x xs ih => intro a b; rw [List.foldl_cons, List.foldl_cons, ByteArray.append_assoc, ih]
theorem elemsO_eq (xs : List Cls) : elemsT xs = ⟨#[34]⟩ ++ elemsO xs := by
  unfold elemsT elemsO
  have := elemsO_app xs ⟨#[34]⟩ ByteArray.empty
  rwa [ByteArray.append_empty] at this
theorem elem_none {x : Cls} (h : x = 0) : elemV x = #[.string ByteArray.empty, .bool false] := by
  unfold elemV elemS
  subst h
  rw [if_neg (by decide)]
  have : singleC (0 : Cls) = none := by
    cases hs : singleC (0 : Cls) with
    | none => rfl
    | some b =>
      exfalso
      have h1 := singleC_lt hs
      unfold singleC at hs
      rw [show (List.range 256).find? (fun b => (0 : Cls).getLsbD b) = none from by rw [List.find?_eq_none]; intro j _; simp] at hs
      cases hs
  rw [this]; simp
def RppInv (xs : List Cls) (n : Nat) (w : World) (ov iv : Value) (wr : World) : Prop := ∃ k : Nat, k ≤ n ∧ iv = .int .i64 k ∧ ov = .string (elemsO (xs.take k)) ∧ Hid (∀ j, j < k → xs.getD j 0 ≠ 0) ∧ Chg Nothing w wr
set_option maxHeartbeats 8000000 in
set_option maxRecDepth 100000 in
theorem refPrint_pat (F : Nat → Prop) (at_ : Int) (A : Option Addr) (l c : Nat) (xs : List Cls) (w : World) (H : ClsRow F w A l c xs) (hl : xs.length = l) (h1 : 1 ≤ l) (h64 : l ≤ 64) :
    Calls Try.prog 64 #[.agg #[.int .i64 8, .int .i64 at_, .int .i64 0, .slice A l c]] w fun e w' => e = .returned (.tuple (printV (patO xs))) ∧ Chg Nothing w w' := by
  have hX := Blk.new w #[.int .i64 8, .int .i64 at_, .int .i64 0, .slice A l c] 57
  have x0 := hX.cell 0 rfl
  have x2 := hX.cell 2 rfl
  have x3 := hX.cell 3 rfl
  have hlx := hX.lt
  clear hX
  have hl1 : ¬ (l : Int) < 1 := by omega
  have hl2 : ¬ (64 : Int) < (l : Int) := by omega
  have hlh := hid hl
  have hle := H.le
  have hmx := H.max
  have hrb := hid (show rightB xs 0 = decide ((0 : Cls) ∉ xs) from by unfold rightB; rw [hl, decide_eq_decide]; constructor <;> intro h; exact h.2.2.1; exact ⟨h1, h64, h, by omega, by omega⟩)
  have H1 := hid (H.chg ((Chg.refl Nothing w).alloc (.cells #[.int .i64 8, .int .i64 at_, .int .i64 0, .slice A l c] 57)) (fun _ _ _ h => h))
  clear H hl
  go_enter Try.func64, Try.ntmps64
  go_wp2_with fail
  go_loopw [4, 5] (fun ov iv wr => RppInv xs l (w.alloc (.cells #[.int .i64 8, .int .i64 at_, .int .i64 0, .slice A l c] 57)) ov iv wr) (fun _ iv _ => l - (intOf iv).toNat)
  case atStart => exact ⟨0, Nat.zero_le _, rfl, rfl, hid (fun j h => by omega), Chg.refl _ _⟩
  case round =>
    obtain ⟨k, hk, rfl, rfl, hnz, hchg⟩ := hrel
    have y3 := (hchg.cells.1 _ _ hlx).trans x3
    rcases Nat.lt_or_ge k l with hkn | hkn
    · obtain ⟨g, o, rfl, -, hgl, c0, c1, c2, c3⟩ := ClsRow.four (H1.out.chg hchg (fun _ _ _ h => h)) hlh.out hkn
      have hT := hid (elemsO_take xs k (by rw [hlh.out]; exact hkn))
      have hmem := hid (show xs.getD k 0 ∈ xs from by
        rw [List.getD_eq_getElem?_getD, List.getElem?_eq_getElem (by rw [hlh.out]; exact hkn)]
        exact List.getElem_mem _)
      obtain ⟨y, hy⟩ : ∃ y, y = xs.getD k 0 := ⟨_, rfl⟩
      rw [← hy] at c0 c1 c2 c3 hT hmem
      have hos : (elemsO (xs.take k)).size ≤ 200000 := by
        have h1 := elemsT_size (xs.take k) ByteArray.empty
        have h2 : (xs.take k).length ≤ k := List.length_take_le _ _
        have h3 : (ByteArray.empty : ByteArray).size = 0 := rfl
        unfold elemsO; omega
      have hds := elemD_size y
      obtain ⟨out, hout⟩ : ∃ out, out = elemsO (xs.take k) := ⟨_, rfl⟩
      rw [← hout] at hos hT ⊢
      replace hout := hid hout
      have hk0 : (0 : Int) ≤ (k : Int) := by omega
      have hkl : (k : Int) < (l : Int) := by omega
      by_cases hy0 : y = 0
      · have hE := hid (show ∀ w, Calls Try.prog 83 #[.agg #[.int .u64 (wd y 0), .int .u64 (wd y 1), .int .u64 (wd y 2), .int .u64 (wd y 3)]] w fun e w' => e = .returned (.tuple #[.string ByteArray.empty, .bool false]) ∧ Chg Nothing w w' from fun w => by have := refElement13_any y w; rw [elem_none hy0] at this; exact this)
        have hR := hid (show rightB xs 0 = false from by rw [hrb.out, decide_eq_false_iff_not]; intro h; exact h (hy0 ▸ hmem.out))
        replace hy := hid hy
        replace hy0 := hid hy0
        go_wp2_with fail
        refine (hE.out _).mono ?_
        rintro e w6 ⟨rfl, hc⟩
        have hC6 := hid (hchg.trans hc)
        clear hc hchg c0 c1 c2 c3
        go_wp2
        go_ret2
        exact ⟨by rw [patO_no hR.out]; rfl, ((Chg.refl _ _).alloc _).trans hC6.out⟩
      · have hE := hid (show ∀ w, Calls Try.prog 83 #[.agg #[.int .u64 (wd y 0), .int .u64 (wd y 1), .int .u64 (wd y 2), .int .u64 (wd y 3)]] w fun e w' => e = .returned (.tuple #[.string (elemD y), .bool true]) ∧ Chg Nothing w w' from fun w => by have := refElement13_any y w; rw [elem_some hy0] at this; exact this)
        have hnz' := hid (show ∀ j, j < k + 1 → xs.getD j 0 ≠ 0 from fun j hj => by
          rcases Nat.lt_or_ge j k with h | h
          · exact hnz.out j h
          · have e : j = k := by omega
            rw [e, ← hy]; exact hy0)
        replace hy := hid hy
        replace hy0 := hid hy0
        go_wp2_with fail
        refine (hE.out _).mono ?_
        rintro e w6 ⟨rfl, hc⟩
        have hC6 := hid (hchg.trans hc)
        clear hc hchg c0 c1 c2 c3
        go_wp2
        go_roundw
        case rel => exact ⟨k + 1, hkn, by go_num, by rw [hT.out], hnz', hC6.out⟩
        case measure => simp [intOf]; omega
    · have hd : decide ((k : Int) < (l : Int)) = false := decide_eq_false (by omega)
      have hall := hid (show xs.take k = xs from List.take_of_length_le (by rw [hlh.out]; exact hkn))
      have hR := hid (show rightB xs 0 = true from by
        rw [hrb.out, decide_eq_true_eq]
        intro h
        obtain ⟨j, hj, e⟩ := List.getElem_of_mem h
        rw [hlh.out] at hj
        exact hnz.out j (by omega) (by rw [List.getD_eq_getElem?_getD, List.getElem?_eq_getElem (by rw [hlh.out]; exact hj)]; exact e))
      rw [hall.out]
      have hos : (elemsO xs).size ≤ 200000 := by
        have h1 := elemsT_size xs ByteArray.empty
        have h3 : (ByteArray.empty : ByteArray).size = 0 := rfl
        have h2 := hlh.out
        unfold elemsO; omega
      have hEQ := hid (elemsO_eq xs)
      obtain ⟨out, hout⟩ : ∃ out, out = elemsO xs := ⟨_, rfl⟩
      rw [← hout] at hos hEQ ⊢
      replace hout := hid hout
      go_wp2
      go_ret2
      exact ⟨by rw [patO_yes hR.out, hEQ.out]; rfl, ((Chg.refl _ _).alloc _).trans hchg⟩
end Go.Proofs.Ytllblpiakijpaaa

/- Layer 13: printing: both Prints, whole. -/
namespace Go.Proofs.Ytllblpiakijpaaa
open Go.RowKit
set_option linter.unusedVariables false
theorem printS_out {kd n : Int} {xs : List Cls} (h : kd < 1 ∨ 8 < kd ∨ n < 0 ∨ 1000000 < n) : printS kd n xs = none := by unfold printS; rw [if_pos h]
theorem printS_in {kd n : Int} {xs : List Cls} (h : ¬ (kd < 1 ∨ 8 < kd ∨ n < 0 ∨ 1000000 < n)) : printS kd n xs = (if kd = 8 then (if n = 0 ∧ rightB xs 0 = true then some (elemsT xs ++ ⟨#[34]⟩) else none)
  else if 0 < xs.length then none
  else if 6 ≤ kd then some (sgnS kd ++ decS n.toNat)
  else if n = 0 then some (sgnS kd) else none) := by unfold printS; rw [if_neg h]
theorem tokPrint_any (F : Nat → Prop) (kd at_ n : Int) (A : Option Addr) (l c : Nat) (xs : List Cls) (w : World) (H : ClsRow F w A l c xs) (hl : xs.length = l) :
    Calls Try.prog 81 #[.agg #[.int .i64 kd, .int .i64 at_, .int .i64 n, .slice A l c]] w fun e w' => e = .returned (.tuple (printV (printS kd n xs))) ∧ Chg Nothing w w' := by
  by_cases ho : kd < 1 ∨ 8 < kd ∨ n < 0 ∨ 1000000 < n
  · rw [printS_out ho]; exact tokPrint_out kd at_ n _ rfl w ho rfl
  rw [printS_in ho]
  have h1 : 1 ≤ kd := by omega
  have h8 : kd ≤ 8 := by omega
  have hn0 : 0 ≤ n := by omega
  have hn : n ≤ 1000000 := by omega
  by_cases hk : kd = 8
  · subst hk
    rw [if_pos rfl]
    by_cases hz : n = 0
    · subst hz
      cases hr : rightB xs 0 with
      | true => rw [if_pos ⟨rfl, rfl⟩]; exact tokPrint_pat F at_ A l c xs w H hl hr
      | false => rw [if_neg (by simp)]; exact tokPrint_wrong F at_ A l c xs w H hl hr
    · rw [if_neg (fun h => hz h.1)]; exact tokPrint_odd 8 at_ n A l c w h1 h8 hn0 hn (.inl ⟨by omega, by omega, hz⟩)
  · rw [if_neg hk, hl]
    by_cases hl0 : 0 < l
    · rw [if_pos hl0]
      by_cases hq : kd ≠ 6 ∧ kd ≠ 7 ∧ n ≠ 0
      · exact tokPrint_odd kd at_ n A l c w h1 h8 hn0 hn (.inl hq)
      · exact tokPrint_odd kd at_ n A l c w h1 h8 hn0 hn (.inr ⟨by omega, hk, hl0⟩)
    · rw [if_neg hl0]
      obtain rfl : l = 0 := by omega
      by_cases h6 : 6 ≤ kd
      · rw [if_pos h6]
        obtain ⟨m, rfl⟩ : ∃ m : Nat, n = m := ⟨n.toNat, by omega⟩
        exact tokPrint_num kd at_ m A c w (by omega) (by omega)
      · rw [if_neg h6]
        by_cases hz : n = 0
        · subst hz; rw [if_pos rfl]; exact tokPrint_sign kd at_ A c w h1 (by omega)
        · rw [if_neg hz]; exact tokPrint_odd kd at_ n A 0 c w h1 h8 hn0 hn (.inl ⟨by omega, by omega, hz⟩)
theorem refPrint_any (F : Nat → Prop) (kd at_ n : Int) (A : Option Addr) (l c : Nat) (xs : List Cls) (w : World) (H : ClsRow F w A l c xs) (hl : xs.length = l) :
    Calls Try.prog 64 #[.agg #[.int .i64 kd, .int .i64 at_, .int .i64 n, .slice A l c]] w fun e w' => e = .returned (.tuple (printV (printS kd n xs))) ∧ Chg Nothing w w' := by
  by_cases ho : kd < 1 ∨ 8 < kd ∨ n < 0 ∨ 1000000 < n
  · rw [printS_out ho]; exact refPrint_out kd at_ n _ rfl w ho rfl
  rw [printS_in ho]
  have h1 : 1 ≤ kd := by omega
  have h8 : kd ≤ 8 := by omega
  have hn0 : 0 ≤ n := by omega
  have hn : n ≤ 1000000 := by omega
  by_cases hk : kd = 8
  · subst hk
    rw [if_pos rfl]
    by_cases hz : n = 0
    · subst hz
      by_cases hll : 1 ≤ l ∧ l ≤ 64
      · have := refPrint_pat F at_ A l c xs w H hl hll.1 hll.2
        have e : (if (0 : Int) = 0 ∧ rightB xs 0 = true then some (elemsT xs ++ ⟨#[34]⟩) else none) = patO xs := by unfold patO; simp
        rw [e]; exact this
      · rw [if_neg (by rintro ⟨_, h⟩; unfold rightB at h; have := of_decide_eq_true h; omega)]
        exact refPrint_few at_ 0 A l c w hn0 hn (.inr (by omega))
    · rw [if_neg (fun h => hz h.1)]; exact refPrint_few at_ n A l c w hn0 hn (.inl hz)
  · rw [if_neg hk, hl]
    by_cases hl0 : 0 < l
    · rw [if_pos hl0]; exact refPrint_none kd at_ n A l c w h1 (by omega) hn0 hn (.inl hl0)
    · rw [if_neg hl0]
      obtain rfl : l = 0 := by omega
      by_cases h6 : 6 ≤ kd
      · rw [if_pos h6]
        obtain ⟨m, rfl⟩ : ∃ m : Nat, n = m := ⟨n.toNat, by omega⟩
        exact refPrint_num kd at_ m A 0 c w (by omega) (by omega) rfl
      · rw [if_neg h6]
        by_cases hz : n = 0
        · subst hz; rw [if_pos rfl]; exact refPrint_sign kd at_ A 0 c w h1 (by omega) rfl
        · rw [if_neg hz]; exact refPrint_none kd at_ n A 0 c w h1 (by omega) hn0 hn (.inr ⟨rfl, by omega, hz⟩)
end Go.Proofs.Ytllblpiakijpaaa

/- Layer 13: how long a printed token is. -/
namespace Go.Proofs.Ytllblpiakijpaaa
open Go.RowKit
set_option linter.unusedVariables false
theorem printS_size {kd n : Int} {xs : List Cls} {u : ByteArray} (h : printS kd n xs = some u) : u.size ≤ 2000000 := by
  by_cases ho : kd < 1 ∨ 8 < kd ∨ n < 0 ∨ 1000000 < n
  · rw [printS_out ho] at h; cases h
  rw [printS_in ho] at h
  by_cases hk : kd = 8
  · rw [if_pos hk] at h
    by_cases hc : n = 0 ∧ rightB xs 0 = true
    · rw [if_pos hc] at h
      injection h with h
      have hr := hc.2
      unfold rightB at hr
      have hr := of_decide_eq_true hr
      have h1 := elemsT_size xs ⟨#[34]⟩
      have z1 : (⟨#[34]⟩ : ByteArray).size = 1 := rfl
      rw [← h, ByteArray.size_append, z1]
      unfold elemsT; omega
    · rw [if_neg hc] at h; cases h
  · rw [if_neg hk] at h
    have hss : ∀ kd, (sgnS kd).size ≤ 7 := by intro kd; unfold sgnS; simp; have : signSet.size = 7 := rfl; omega
    split at h
    · cases h
    · split at h
      · injection h with h
        have h1 := decS_size n.toNat
        have h2 := hss kd
        rw [← h, ByteArray.size_append]; omega
      · split at h
        · injection h with h; rw [← h]; have := hss kd; omega
        · cases h
end Go.Proofs.Ytllblpiakijpaaa
