/- Joined texts: SpdA SpdB SpdC SpdD AlvA. -/
import Derived.Test.YtlpgbnbklddfaaaBunR
import Derived.Test.YtlpgbnbklddfaaaBunT
import Derived.Deep.RegionHeld3
import Derived.Test.YtlpgbnbklddfaaaBunU
import Derived.Test.YtlpgbnbklddfaaaBunF
/- The document's Where, Classes, in. -/
namespace Go.Proofs.Ytlpgbnbklddfaaa
open Go.RowKit
set_option linter.unusedVariables false
def RwhInv (xs : List Cls) (x : Cls) (n : Nat) (A0 : Option Addr) (n0 c0 : Nat) (K : Int) (w : World) (ov iv : Value) (wr : World) : Prop := ∃ (k L : Nat) (A : Option Addr) (c : Nat), k ≤ n ∧ L ≤ k ∧ iv = .int .i64 k ∧ ov = .slice A L c ∧ IRow wr (w.heap.size + 2) A L c (whereTo xs x k) ∧ Blk wr w.heap.size #[.slice A0 n0 c0, .int .i64 K] 24 ∧ CBox wr (w.heap.size + 1) x ∧ Chg Nothing w wr
set_option maxHeartbeats 4000000 in
set_option maxRecDepth 100000 in
theorem refWhere_any (F : Nat → Prop) (A : Option Addr) (n c : Nat) (xs : List Cls) (K : Int) (x : Cls) (w : World) (H : ClsRow F w A n c xs) (hl : xs.length = n) (hn9 : n ≤ 1000000000) :
    Calls Try.prog 34 #[.agg #[.slice A n c, .int .i64 K], .agg #[.int .u64 (wd x 0), .int .u64 (wd x 1), .int .u64 (wd x 2), .int .u64 (wd x 3)]] w fun e w' => GivesI w.heap.size w' e (whereTo xs x n) ∧ Chg Nothing w w' := by
  have HH := hid (fun (w' : World) (hc : Chg Nothing w w') => H.chg hc (fun _ _ _ h => h))
  have hlh := hid hl
  have hmx := H.max
  have hle := H.le
  have hX := hid ((Blk.new w #[.slice A n c, .int .i64 K] 24).alloc (.cells (cellsC x) 51))
  have hY := Blk.new (w.alloc (.cells #[.slice A n c, .int .i64 K] 24)) (cellsC x) 51
  rw [World.size_alloc] at hY
  replace hY := hid hY
  clear H hl
  go_enter Try.func34, Try.ntmps34
  go_wp2_with fail
  go_loopw [5, 6] (fun ov iv wr => RwhInv xs x n A n c K w ov iv wr) (fun _ iv _ => n - (intOf iv).toNat)
  case atStart => exact ⟨0, 0, none, 0, Nat.zero_le _, Nat.zero_le _, rfl, rfl, World.ownsRow_nil _ _ _ _, hX.out, hY.out, ((Chg.refl _ _).alloc _).alloc _⟩
  case round =>
    obtain ⟨k, L, A1, c1, hk, hLk, rfl, rfl, hown, hbx, hcb, hchg⟩ := hrel
    have x0 := hbx.cell 0 (v := .slice A n c) rfl
    have hxl := hbx.lt
    rcases Nat.lt_or_ge k n with hkn | hkn
    · obtain ⟨g, o, rfl, -, hgl, c0, c1', c2, c3⟩ := ClsRow.four (HH.out _ hchg) hlh.out hkn
      obtain ⟨r0, r1, r2, r3, -, -, -, -, hlt1⟩ := CBox.at_ hcb
      have hk0 : (0 : Int) ≤ (k : Int) := by omega
      have hkI : (k : Int) < (n : Int) := by omega
      have hy := hid (fun h => whereTo_yes (xs := xs) (c := x) (n := k) h)
      have hno := hid (fun h => whereTo_no (xs := xs) (c := x) (n := k) h)
      obtain ⟨y, hyd⟩ : ∃ y, y = xs.getD k 0 := ⟨_, rfl⟩
      rw [← hyd] at c0 c1' c2 c3 hy hno
      have hq := eq_class y x
      have HB := hid hbx
      have HX := hid hcb
      have HO := hid hown
      have HC := hid hchg
      clear hbx hcb hown hchg hyd
      by_cases he : y = x
      · rw [decide_eq_true he] at hq
        unfold encC at hq
        have hyy := hid (hy.out he)
        replace he := hid he
        clear hy hno
        go_wp2
        go_quiet (fail)
        go_wp2_with (at_builtin; refine append_one rfl _ _ 34 rfl (w.heap.size + 2) 3 (.int .i64 0) 8 Try.underlying34 infoInt rfl A1 c1 L _ rfl (own_chg HO.out ((Chg.refl Nothing wr).drewN _) (fun _ _ h => h)) (.int .i64 (k : Nat)) rfl rfl ?_ ?_ ?_ ?_)
        any_goals (first | omega | exact HX.out.lt)
        intro A' c' w6 hown6 hc6 hA
        have hc7 := ((Chg.refl (Of A1) wr).drewN _).trans hc6
        have hown7 := hid (show IRow w6 (w.heap.size + 2) A' (L + 1) c' (whereTo xs x (k + 1)) from by rw [hyy.out]; unfold IRow; rw [List.map_append]; exact hown6)
        have oa := own_of HO.out
        have hB6 := hid (HB.out.chg hc7 (fun h => by have := oa _ h; omega))
        have hX6 := hid (HX.out.chg hc7 (fun h => by have := oa _ h; omega))
        have hC6 := hid (HC.out.then hc7 (fun i hi h => by have := oa _ h; omega))
        clear hown6 hc6 hA hc7
        go_wp2
        go_roundw
        case rel => exact ⟨k + 1, L + 1, A', c', hkn, by omega, by go_num, rfl, hown7.out, hB6.out, hX6.out, hC6.out⟩
        case measure => simp [intOf]; omega
      · rw [decide_eq_false he] at hq
        unfold encC at hq
        have hnn := hid (hno.out he)
        replace he := hid he
        clear hy hno
        go_wp2
        go_quiet (fail)
        go_wp2
        go_roundw
        case rel => exact ⟨k + 1, L, A1, c1, hkn, by omega, by go_num, rfl, by rw [hnn.out]; exact own_chg HO.out ((Chg.refl Nothing wr).drewN _) (fun _ _ h => h), HB.out.chg ((Chg.refl Nothing wr).drewN _) id, HX.out.chg ((Chg.refl Nothing wr).drewN _) id, HC.out.trans ((Chg.refl Nothing wr).drewN _)⟩
        case measure => simp [intOf]; omega
    · obtain rfl : k = n := by omega
      have hd : decide ((k : Int) < (k : Int)) = false := decide_eq_false (by omega)
      have hl := hid hown.1
      have HO := hid hown
      have HC := hid hchg
      clear hbx hcb hown hchg
      go_wp2
      go_ret
      have hL : L = (whereTo xs x k).length := by have := hl.out; simpa using this.symm
      subst hL
      exact ⟨⟨_, _, rfl, own_low HO.out (by omega)⟩, HC.out⟩
def InInv (ks : List Cls) (v : Cls) (n : Nat) (w : World) (iv : Value) (wr : World) : Prop := ∃ k : Nat, k ≤ n ∧ iv = .int .i64 k ∧ Hid (∀ j, j < k → ks.getD j 0 ≠ v) ∧ CBox wr w.heap.size v ∧ Chg Nothing w wr
set_option maxHeartbeats 4000000 in
set_option maxRecDepth 100000 in
theorem refIn_any (F : Nat → Prop) (A : Option Addr) (n c : Nat) (ks : List Cls) (v : Cls) (w : World) (H : ClsRow F w A n c ks) (hl : ks.length = n) :
    Calls Try.prog 40 #[.slice A n c, litC v] w fun e w' => e = .returned (.bool (decide (v ∈ ks))) ∧ Chg Nothing w w' := by
  have HH := hid (fun (w' : World) (hc : Chg Nothing w w') => H.chg hc (fun _ _ _ h => h))
  have hlh := hid hl
  have hmx := H.max
  have hle := H.le
  have hX := hid (Blk.new w (cellsC v) 51)
  clear H hl
  go_enter Try.func40, Try.ntmps40
  go_wp2_with fail
  go_loopw [5] (fun iv wr => InInv ks v n w iv wr) (fun iv _ => n - (intOf iv).toNat)
  case atStart => exact ⟨0, Nat.zero_le _, rfl, hid (fun j hj => by omega), hX.out, (Chg.refl _ _).alloc _⟩
  case round =>
    obtain ⟨k, hk, rfl, hall, hcb, hchg⟩ := hrel
    rcases Nat.lt_or_ge k n with hkn | hkn
    · obtain ⟨g, o, rfl, -, hgl, c0, c1', c2, c3⟩ := ClsRow.four (HH.out _ hchg) hlh.out hkn
      obtain ⟨r0, r1, r2, r3, -, -, -, -, hlt1⟩ := CBox.at_ hcb
      have hk0 : (0 : Int) ≤ (k : Int) := by omega
      have hkI : (k : Int) < (n : Int) := by omega
      obtain ⟨y, hyd⟩ : ∃ y, y = ks.getD k 0 := ⟨_, rfl⟩
      rw [← hyd] at c0 c1' c2 c3
      replace hyd := hid hyd
      have hq := eq_class y v
      have HX := hid hcb
      have HC := hid hchg
      clear hcb hchg
      by_cases he : y = v
      · rw [decide_eq_true he] at hq
        unfold encC at hq
        have hin := hid (show v ∈ ks from by
          rw [← he, hyd.out, List.getD_eq_getElem?_getD, List.getElem?_eq_getElem (by rw [hlh.out]; exact hkn)]
          exact List.getElem_mem _)
        replace he := hid he
        go_wp2
        go_quiet (fail)
        go_wp2
        go_ret
        exact ⟨by rw [decide_eq_true hin.out]; rfl, HC.out.trans ((Chg.refl Nothing wr).drewN _)⟩
      · rw [decide_eq_false he] at hq
        unfold encC at hq
        have hnx := hid (show ∀ j, j < k + 1 → ks.getD j 0 ≠ v from fun j hj => by
          by_cases hjk : j = k
          · subst hjk; rw [← hyd.out]; exact he
          · exact hall.out j (by omega))
        replace he := hid he
        go_wp2
        go_quiet (fail)
        go_wp2
        go_roundw
        case rel => exact ⟨k + 1, hkn, by go_num, hnx, HX.out.chg ((Chg.refl Nothing wr).drewN _) id, HC.out.trans ((Chg.refl Nothing wr).drewN _)⟩
        case measure => simp [intOf]; omega
    · obtain rfl : k = n := by omega
      have hd : decide ((k : Int) < (k : Int)) = false := decide_eq_false (by omega)
      have hno := hid (show ¬ v ∈ ks from fun h => by
        obtain ⟨j, hj, e⟩ := List.getElem_of_mem h
        have := hall.out j (by rw [← hlh.out]; exact hj)
        rw [List.getD_eq_getElem?_getD, List.getElem?_eq_getElem hj] at this
        exact this e)
      have HC := hid hchg
      clear hcb hchg
      go_wp2
      go_ret
      exact ⟨by rw [decide_eq_false hno.out]; rfl, HC.out⟩
def ClInv (xs ys : List Cls) (n : Nat) (w : World) (iv : Value) (wr : World) : Prop := ∃ k : Nat, k ≤ n ∧ iv = .int .i64 k ∧ Hid (∀ j, j < k → xs.getD j 0 = ys.getD j 0) ∧ Chg Nothing w wr
set_option maxHeartbeats 4000000 in
set_option maxRecDepth 100000 in
theorem sameClasses_any (F G : Nat → Prop) (A B : Option Addr) (n c m d : Nat) (xs ys : List Cls) (w : World) (H : ClsRow F w A n c xs) (hl : xs.length = n) (H2 : ClsRow G w B m d ys) (hl2 : ys.length = m) :
    Calls Try.prog 12 #[.slice A n c, .slice B m d] w fun e w' => e = .returned (.bool (decide (xs = ys))) ∧ Chg Nothing w w' := by
  have HH := hid (fun (w' : World) (hc : Chg Nothing w w') => H.chg hc (fun _ _ _ h => h))
  have HH2 := hid (fun (w' : World) (hc : Chg Nothing w w') => H2.chg hc (fun _ _ _ h => h))
  have hlh := hid hl
  have hlh2 := hid hl2
  have hmx := H.max
  have hle := H.le
  have hmx2 := H2.max
  have hle2 := H2.le
  by_cases hnm : n = m
  · subst hnm
    have hb : ((n : Int) == (n : Int)) = true := beq_iff_eq.2 rfl
    clear H hl H2 hl2
    go_enter Try.func12, Try.ntmps12
    go_wp2_with fail
    go_loopw [5] (fun iv wr => ClInv xs ys n w iv wr) (fun iv _ => n - (intOf iv).toNat)
    case atStart => exact ⟨0, Nat.zero_le _, rfl, hid (fun j hj => by omega), Chg.refl _ _⟩
    case round =>
      obtain ⟨k, hk, rfl, hall, hchg⟩ := hrel
      rcases Nat.lt_or_ge k n with hkn | hkn
      · obtain ⟨g, o, rfl, -, hgl, c0, c1', c2, c3⟩ := ClsRow.four (HH.out _ hchg) hlh.out hkn
        obtain ⟨g2, o2, rfl, -, hgl2, d0, d1, d2, d3⟩ := ClsRow.four (HH2.out _ hchg) hlh2.out hkn
        have hk0 : (0 : Int) ≤ (k : Int) := by omega
        have hkI : (k : Int) < (n : Int) := by omega
        obtain ⟨y, hyd⟩ : ∃ y, y = xs.getD k 0 := ⟨_, rfl⟩
        obtain ⟨z, hzd⟩ : ∃ z, z = ys.getD k 0 := ⟨_, rfl⟩
        rw [← hyd] at c0 c1' c2 c3
        rw [← hzd] at d0 d1 d2 d3
        replace hyd := hid hyd
        replace hzd := hid hzd
        have hq := eq_class y z
        have HC := hid hchg
        clear hchg
        by_cases he : y = z
        · rw [decide_eq_true he] at hq
          unfold encC at hq
          have hnx := hid (show ∀ j, j < k + 1 → xs.getD j 0 = ys.getD j 0 from fun j hj => by
            by_cases hjk : j = k
            · subst hjk; rw [← hyd.out, ← hzd.out]; exact he
            · exact hall.out j (by omega))
          replace he := hid he
          go_wp2
          go_quiet (fail)
          go_wp2
          go_roundw
          case rel => exact ⟨k + 1, hkn, by go_num, hnx, HC.out.trans ((Chg.refl Nothing wr).drewN _)⟩
          case measure => simp [intOf]; omega
        · rw [decide_eq_false he] at hq
          unfold encC at hq
          have hne := hid (show ¬ xs = ys from fun h => he (by rw [hyd.out, hzd.out, h]))
          replace he := hid he
          go_wp2
          go_quiet (fail)
          go_wp2
          go_ret
          exact ⟨by rw [decide_eq_false hne.out]; rfl, HC.out.trans ((Chg.refl Nothing wr).drewN _)⟩
      · obtain rfl : k = n := by omega
        have hd : decide ((k : Int) < (k : Int)) = false := decide_eq_false (by omega)
        have hyes := hid (show xs = ys from List.ext_getElem (by rw [hlh.out, hlh2.out]) (fun i h1 h2 => by
          have := hall.out i (by rw [← hlh.out]; exact h1)
          rwa [List.getD_eq_getElem?_getD, List.getD_eq_getElem?_getD, List.getElem?_eq_getElem h1, List.getElem?_eq_getElem h2] at this))
        have HC := hid hchg
        clear hchg
        go_wp2
        go_ret
        exact ⟨by rw [decide_eq_true hyes.out]; rfl, HC.out⟩
  · have hb : ((n : Int) == (m : Int)) = false := beq_eq_false_iff_ne.2 (by omega)
    have hnI : ¬ (n : Int) = (m : Int) := by omega
    have hne := hid (show ¬ xs = ys from fun h => hnm (by rw [← hl, ← hl2, h]))
    clear H hl H2 hl2
    go_enter Try.func12, Try.ntmps12
    go_wp2
    go_ret
    exact ⟨by rw [decide_eq_false hne.out]; rfl, Chg.refl _ _⟩
end Go.Proofs.Ytlpgbnbklddfaaa

/- The document's Part, Rare. -/
namespace Go.Proofs.Ytlpgbnbklddfaaa
open Go.RowKit
set_option linter.unusedVariables false
def partL (xs : List Cls) (least : Int) (fr : Bool) : List Cls := (kindsL xs).filter fun c => freqB xs least c == fr
theorem partL_true (xs : List Cls) (least : Int) : partL xs least true = freqL xs least := by unfold partL freqL; congr 1; funext c; simp
theorem partL_false (xs : List Cls) (least : Int) : partL xs least false = rareL xs least := by unfold partL rareL; congr 1; funext c; simp
theorem filt_take {ks : List Cls} {p : Cls → Bool} {k : Nat} (hk : k < ks.length) : (ks.take (k + 1)).filter p = (ks.take k).filter p ++ if p (ks.getD k 0) = true then [ks.getD k 0] else [] := by
  rw [show ks.take (k + 1) = ks.take k ++ [ks.getD k 0] from by rw [List.take_succ_eq_append_getElem hk]; simp [hk], List.filter_append]
  congr 1
  by_cases h : p (ks.getD k 0) = true
  · rw [List.filter_cons_of_pos h, if_pos h]; rfl
  · rw [List.filter_cons_of_neg h, if_neg h]; rfl
def PtInv (w w1 : World) (ks : List Cls) (p : Cls → Bool) (ov iv : Value) (wr : World) : Prop := ∃ (k L : Nat) (A : Option Addr) (c : Nat), k ≤ ks.length ∧ L ≤ k ∧ iv = .int .i64 k ∧ ov = .slice A L c ∧ Hid (L = ((ks.take k).filter p).length) ∧ CRow wr w1.heap.size A L c ((ks.take k).filter p) ∧ Chg Nothing w1 wr
set_option maxHeartbeats 8000000 in
set_option maxRecDepth 100000 in
theorem refPart_any (F : Nat → Prop) (A : Option Addr) (n c : Nat) (xs : List Cls) (K least : Int) (fr : Bool) (w : World) (H : ClsRow F w A n c xs) (hl : xs.length = n) (hn9 : n ≤ 1000000000) :
    Calls Try.prog 13 #[.agg #[.slice A n c, .int .i64 K], .int .i64 least, .bool fr] w fun e w' => ∃ A' c', e = .returned (.slice A' (partL xs least fr).length c') ∧ CRow w' w.heap.size A' (partL xs least fr).length c' (partL xs least fr) ∧ Chg Nothing w w' := by
  have HH := hid (fun (w' : World) (hc : Chg Nothing w w') => H.chg hc (fun _ _ _ h => h))
  have hlh := hid hl
  have hX := hid (Blk.new w #[.slice A n c, .int .i64 K] 24)
  have x0 := hX.out.cell 0 (v := .slice A n c) rfl
  have x1 := hX.out.cell 1 (v := .int .i64 K) rfl
  have hw0 := hid ((Chg.refl Nothing w).alloc (.cells #[.slice A n c, .int .i64 K] 24))
  have hKi := hid (refKinds_any F A n c xs K _ (HH.out _ hw0.out) hl hn9)
  obtain ⟨ks, hks⟩ : ∃ ks, ks = kindsL xs := ⟨_, rfl⟩
  have hkl := kindsL_len xs
  have hpl : partL xs least fr = ks.filter fun c => freqB xs least c == fr := by rw [hks]; rfl
  rw [← hks] at hKi hkl
  rw [hl] at hkl
  replace hpl := hid hpl
  clear H hl hks
  go_enter Try.func13, Try.ntmps13
  go_wp2_with fail
  refine hKi.out.mono ?_
  rintro e w1 ⟨A4, c4, rfl, hO4, hc1⟩
  have hX1 := hid (hX.out.chg hc1 id)
  have hC1 := hid (hw0.out.trans hc1)
  have hO4h := hid hO4
  clear hX hw0 hc1 x0 x1 hO4 hKi
  go_wp2_with fail
  go_loopw [8, 9] (fun ov iv wr => PtInv w w1 ks (fun c => freqB xs least c == fr) ov iv wr) (fun _ iv _ => ks.length - (intOf iv).toNat)
  case atStart => exact ⟨0, 0, none, 0, Nat.zero_le _, Nat.zero_le _, rfl, rfl, hid (by simp), World.ownsRow_nil _ _ _ _, Chg.refl _ _⟩
  case round =>
    obtain ⟨k, L, A1, c1, hk, hLk, rfl, rfl, hLl, hown, hchg⟩ := hrel
    rcases Nat.lt_or_ge k ks.length with hkn | hkn
    · have hk0 : (0 : Int) ≤ (k : Int) := by omega
      have hkI : (k : Int) < (ks.length : Int) := by omega
      have hOk := hid (own_chg hO4h.out hchg (fun _ _ h => h))
      obtain ⟨g, o, rfl, -, hgl, d0, d1, d2, d3⟩ := ClsRow.four (RowAt.of_own hOk.out) rfl hkn
      have hXr := hid (hX1.out.chg hchg id)
      have x0 := hXr.out.cell 0 (v := .slice A n c) rfl
      have x1 := hXr.out.cell 1 (v := .int .i64 K) rfl
      have hxl := hXr.out.lt
      obtain ⟨y, hyd⟩ : ∃ y, y = ks.getD k 0 := ⟨_, rfl⟩
      rw [← hyd] at d0 d1 d2 d3
      have hft := filt_take (ks := ks) (p := fun c => freqB xs least c == fr) hkn
      rw [← hyd] at hft
      have hS := hid (fun (m : Calm wr) => (⟨Calm.cell hxl x0 m, Calm.cell hxl x1 m, Calm.cell hgl d0 m, Calm.cell hgl d1 m, Calm.cell hgl d2 m, Calm.cell hgl d3 m⟩ : m.val.cell? ⟨w.heap.size, 0, none⟩ = some (.slice A n c) ∧ m.val.cell? ⟨w.heap.size, 1, none⟩ = some (.int .i64 K) ∧ m.val.cell? ⟨g, o + k * 4, none⟩ = some (.int .u64 (wd y 0)) ∧ m.val.cell? ⟨g, o + k * 4 + 1, none⟩ = some (.int .u64 (wd y 1)) ∧ m.val.cell? ⟨g, o + k * 4 + 2, none⟩ = some (.int .u64 (wd y 2)) ∧ m.val.cell? ⟨g, o + k * 4 + 3, none⟩ = some (.int .u64 (wd y 3))))
      have hWh := hid (fun (m : Calm wr) => (refWhere_any F A n c xs K y m.val (HH.out _ (hC1.out.trans (hchg.trans m.chg))) hlh.out hn9).mono (R' := fun e w' => ∃ A5 c5, e = .returned (.slice A5 (whereTo xs y n).length c5) ∧ Chg Nothing m.val w') (fun e w' h => by obtain ⟨⟨A5, c5, e5, -⟩, hc⟩ := h; exact ⟨A5, c5, e5, hc⟩))
      have hfb : freqB xs least y = decide (least ≤ ((whereTo xs y n).length : Int)) := by unfold freqB; rw [hlh.out]
      obtain ⟨t, ht⟩ : ∃ t, t = freqB xs least y := ⟨_, rfl⟩
      rw [← ht] at hfb
      simp only [← ht] at hft
      have hd0 := hid ((Chg.refl Nothing wr).drew)
      have hOw := hid hown
      have hCr := hid hchg
      replace hyd := hid hyd
      replace ht := hid ht
      have hdm := Nat.le_trans (RowAt.of_own hOk.out).le (RowAt.of_own hOk.out).max
      generalize (whereTo xs y n) = ys at hWh hfb
      have hfc : decide (least ≤ (ys.length : Int)) = t := hfb.symm
      clear hown hchg x0 x1 d0 d1 d2 d3 hfb
      obtain ⟨b, hb⟩ : ∃ b, (t == fr) = b := ⟨_, rfl⟩
      rw [hb] at hft
      replace hft := hid hft
      go_wp2_with fail
      go_region_held3 (fun w' => w'.cell? ⟨w.heap.size, 0, none⟩ = some (.slice A n c) ∧ w'.cell? ⟨w.heap.size, 1, none⟩ = some (.int .i64 K) ∧ w'.cell? ⟨g, o + k * 4, none⟩ = some (.int .u64 (wd y 0)) ∧ w'.cell? ⟨g, o + k * 4 + 1, none⟩ = some (.int .u64 (wd y 1)) ∧ w'.cell? ⟨g, o + k * 4 + 2, none⟩ = some (.int .u64 (wd y 2)) ∧ w'.cell? ⟨g, o + k * 4 + 3, none⟩ = some (.int .u64 (wd y 3)))
        (first | exact hS.out ⟨_, hd0.out⟩ | exact hS.out ⟨_, hd0.out.trans hcy⟩)
        (first | (go_at_call 34; with_reducible refine (hWh.out ⟨_, hd0.out⟩).mono ?_; rintro e w5 ⟨A5, c5, rfl, hcy⟩))
      all_goals
        obtain ⟨z0, z1, z2, z3, z4, z5⟩ := hS.out ⟨_, hd0.out.trans hcy⟩
        dsimp only at z0 z1 z2 z3 z4 z5
        have hcw := hid (hd0.out.trans hcy)
        have hC5 := hid (hCr.out.trans hcw.out)
        have hO5 := hid (own_chg hOw.out hcw.out (fun _ _ h => h))
        have hgl5 := Nat.lt_of_lt_of_le hgl hcw.out.size
        have hsz5 := hid hC5.out.size
        clear hcy
        clear hS hWh hfc hcw hOw hCr hOk hXr
        cases b with
        | false =>
          have hno := hid (show (ks.take (k + 1)).filter (fun c => freqB xs least c == fr) = (ks.take k).filter (fun c => freqB xs least c == fr) from by rw [hft.out]; simp)
          have hLn := hid (show L = ((ks.take (k + 1)).filter (fun c => freqB xs least c == fr)).length from by rw [hno.out]; exact hLl.out)
          have hC6 := hid hC5
          go_wp2
          go_roundw
          case rel => exact ⟨k + 1, L, A1, c1, hkn, by omega, by go_num, rfl, hLn, by rw [hno.out]; exact hO5.out, hC5.out⟩
          case measure => simp [intOf]; omega
        | true =>
          have hye := hid (show (ks.take (k + 1)).filter (fun c => freqB xs least c == fr) = (ks.take k).filter (fun c => freqB xs least c == fr) ++ [y] from by rw [hft.out]; simp)
          have hLn := hid (show L + 1 = ((ks.take (k + 1)).filter (fun c => freqB xs least c == fr)).length from by rw [hye.out, List.length_append, ← hLl.out]; rfl)
          go_wp2_with (at_builtin; refine append_gen rfl _ _ 22 rfl w1.heap.size 51 (.agg #[.int .u64 0, .int .u64 0, .int .u64 0, .int .u64 0]) 4 32 Try.underlying22 infoCl rfl (by decide) A1 c1 L _ rfl (own_chg hO5.out ((Chg.refl Nothing w5).alloc _) (fun _ _ h => h)) (some ⟨w5.heap.size, 0, none⟩) 1 1 (clsL y) rfl rfl (fun e => by cases e) (Nat.le_refl _) (fun ad e => by injection e with e; subst e; exact clsL_cells w5 y _) (clsL_one _) ?_ ?_ ?_ ?_)
          · unfold maxLen; omega
          · omega
          · have := hsz5.out; omega
          intro A' c' w6 hown6 hc6 hA6
          have hc6' := ((Chg.refl (Of A1) w5).alloc (.cells #[.int .u64 (wd y 0), .int .u64 (wd y 1), .int .u64 (wd y 2), .int .u64 (wd y 3)] 51)).trans hc6
          have oa6 := own_of hO5.out
          have hC6 := hid (hC5.out.then hc6' (fun i hi h => by have := oa6 _ h; omega))
          have hO6 := hid (show CRow w6 w1.heap.size A' (L + 1) c' ((ks.take (k + 1)).filter (fun c => freqB xs least c == fr)) from by
            rw [hye.out]
            unfold CRow
            rw [List.flatMap_append, show [y].flatMap clsL = clsL y from by simp]
            exact hown6)
          clear hown6 hc6 hA6 hc6' oa6
          go_wp2
          go_roundw
          case rel => exact ⟨k + 1, L + 1, A', c', hkn, by omega, by go_num, rfl, hLn, hO6.out, hC6.out⟩
          case measure => simp [intOf]; omega
    · obtain rfl : k = ks.length := by omega
      have hd : decide ((ks.length : Int) < (ks.length : Int)) = false := decide_eq_false (by omega)
      have hfin := hid (show (ks.take ks.length).filter (fun c => freqB xs least c == fr) = partL xs least fr from by rw [List.take_length, hpl.out])
      have hO9 := hid hown
      have hC9 := hid (hC1.out.trans hchg)
      rw [hfin.out] at hO9 hLl
      have hLo := hLl.out
      subst hLo
      have hlo := hid hC1.out.size
      clear hown hchg hLl
      go_wp2
      go_ret
      exact ⟨A1, c1, rfl, own_low hO9.out hlo.out, hC9.out⟩
end Go.Proofs.Ytlpgbnbklddfaaa

/- The document's Rare. -/
namespace Go.Proofs.Ytlpgbnbklddfaaa
open Go.RowKit
set_option linter.unusedVariables false
def rareJ (xs ks : List Cls) (s : ByteArray) (i m : Nat) : Int := sumN m (fun j => if xs.getD j 0 ∈ ks ∧ (xs.getD j 0).getLsbD (s.data[i + j]?.getD 0).toNat = true then 1 else 0)
theorem rareJ_bound (xs ks : List Cls) (s : ByteArray) (i m : Nat) : 0 ≤ rareJ xs ks s i m ∧ rareJ xs ks s i m ≤ m := by
  unfold rareJ
  refine ⟨sumN_nonneg _ _ fun u _ => by split <;> omega, ?_⟩
  have := sumN_le m (fun j => if xs.getD j 0 ∈ ks ∧ (xs.getD j 0).getLsbD (s.data[i + j]?.getD 0).toNat = true then (1 : Int) else 0) 1 (fun u _ => by split <;> omega)
  omega
def rareR (xs : List Cls) (K : Int) (ks : List Cls) (s : ByteArray) : List Int := if rightB xs K = true then (List.range (s.size + 1 - xs.length)).map (rareN xs ks s) else []
def RdInv12 (xs ks : List Cls) (s : ByteArray) (n N : Nat) (A0 : Option Addr) (c0 : Nat) (K : Int) (w : World) (ov iv : Value) (wr : World) : Prop := ∃ (k : Nat) (A : Option Addr) (c : Nat), k ≤ N ∧ iv = .int .i64 k ∧ ov = .slice A k c ∧ IRow wr (w.heap.size + 1) A k c ((List.range k).map (rareN xs ks s)) ∧ Blk wr w.heap.size #[.slice A0 n c0, .int .i64 K] 24 ∧ Chg Nothing w wr
def RdIn12 (xs ks : List Cls) (s : ByteArray) (i n : Nat) (w1 : World) (nv jv : Value) (wr : World) : Prop := ∃ j : Nat, j ≤ n ∧ jv = .int .i64 j ∧ nv = .int .i64 (rareJ xs ks s i j) ∧ Chg Nothing w1 wr
set_option maxHeartbeats 8000000 in
set_option maxRecDepth 100000 in
theorem refRare_any (F F2 : Nat → Prop) (A : Option Addr) (n c : Nat) (xs : List Cls) (K : Int) (s : ByteArray) (A2 : Option Addr) (n2 c2 : Nat) (ks : List Cls) (w : World)
    (H : ClsRow F w A n c xs) (hl : xs.length = n) (H2 : ClsRow F2 w A2 n2 c2 ks) (hl2 : ks.length = n2) (hs : s.size ≤ 100000000) :
    Calls Try.prog 17 #[.agg #[.slice A n c, .int .i64 K], .string s, .slice A2 n2 c2] w fun e w' => GivesI w.heap.size w' e (rareR xs K ks s) ∧ Chg Nothing w w' := by
  have HH := hid (fun (w' : World) (hc : Chg Nothing w w') => H.chg hc (fun _ _ _ h => h))
  have HH2 := hid (fun (w' : World) (hc : Chg Nothing w w') => H2.chg hc (fun _ _ _ h => h))
  have hlh := hid hl
  have hlh2 := hid hl2
  have hmx := H.max
  have hle := H.le
  have hX := hid (Blk.new w #[.slice A n c, .int .i64 K] 24)
  have x0 := hX.out.cell 0 (v := .slice A n c) rfl
  have x1 := hX.out.cell 1 (v := .int .i64 K) rfl
  have hw0 := hid ((Chg.refl Nothing w).alloc (.cells #[.slice A n c, .int .i64 K] 24))
  have hR := hid (refRight7_any F A n c xs K _ (HH.out _ hw0.out) hl)
  obtain ⟨r, hr⟩ : ∃ r, r = rightB xs K := ⟨_, rfl⟩
  rw [← hr] at hR
  cases r with
  | false =>
    have hE := hid (show rareR xs K ks s = [] from by unfold rareR; rw [← hr]; rfl)
    rw [hE.out]
    clear H hl H2 hl2 hr
    go_enter Try.func17, Try.ntmps17
    go_wp2_with fail
    refine hR.out.mono ?_
    rintro e w1 ⟨rfl, hc1⟩
    have hC1 := hid (hw0.out.trans hc1)
    clear hc1 x0 x1
    go_wp2
    go_ret
    exact ⟨⟨none, 0, rfl, World.ownsRow_nil _ _ _ _⟩, hC1.out⟩
  | true =>
    have h1 := (right_len hr.symm).1
    have h64 := (right_len hr.symm).2
    rw [hl] at h1 h64
    obtain ⟨N, hN⟩ : ∃ N, N = s.size + 1 - n := ⟨_, rfl⟩
    have hE := hid (show rareR xs K ks s = (List.range N).map (rareN xs ks s) from by unfold rareR; rw [← hr, hl, hN]; rfl)
    rw [hE.out]
    have hNb : N ≤ 100000000 := by omega
    have hNs : ∀ k : Nat, k < N → (k : Int) + (n : Int) ≤ (s.size : Int) := fun k hk => by omega
    have hNe := hid (show ¬ (N : Int) + (n : Int) ≤ (s.size : Int) from by omega)
    replace hN := hid hN
    replace hNs := hid hNs
    clear H hl H2 hl2 hr
    go_enter Try.func17, Try.ntmps17
    go_wp2_with fail
    refine hR.out.mono ?_
    rintro e w1 ⟨rfl, hc1⟩
    have hC1 := hid (hw0.out.trans hc1)
    have hX1 := hid (hX.out.chg hc1 id)
    clear hc1 x0 x1 hX hw0 hR
    go_wp2_with fail
    go_loopw [7, 8] (fun ov iv wr => RdInv12 xs ks s n N A c K w ov iv wr) (fun _ iv _ => N - (intOf iv).toNat)
    case atStart => exact ⟨0, none, 0, Nat.zero_le _, rfl, rfl, World.ownsRow_nil _ _ _ _, hX1.out, hC1.out⟩
    case round =>
      obtain ⟨k, A1, c1, hk, rfl, rfl, hown, hbx, hchg⟩ := hrel
      have x0 := hbx.cell 0 (v := .slice A n c) rfl
      have hxl := hbx.lt
      have hw1 : IntKind.i64.wrap ((k : Int) + (n : Int)) = (k : Int) + (n : Int) := by rw [IntKind.wrap_i64]; omega
      rcases Nat.lt_or_ge k N with hkn | hkn
      · have hin := hNs.out k hkn
        have hOw := hid hown
        have hBx := hid hbx
        have hCr := hid hchg
        clear hown hbx hchg
        generalize wr = wo at *
        go_wp2_with fail
        go_loopw [9, 10] (fun nv jv wr => RdIn12 xs ks s k n wo nv jv wr) (fun _ jv _ => n - (intOf jv).toNat)
        case atStart => exact ⟨0, Nat.zero_le _, rfl, rfl, Chg.refl _ _⟩
        case round =>
          obtain ⟨j, hj, rfl, rfl, hch⟩ := hrel
          have y0 := (hch.cells.1 _ _ hxl).trans x0
          have hyl := Nat.lt_of_lt_of_le hxl hch.size
          rcases Nat.lt_or_ge j n with hjn | hjn
          · obtain ⟨g, o, rfl, -, hgl, c0, c1', c2', c3⟩ := ClsRow.four (HH.out _ (hCr.out.trans hch)) hlh.out hjn
            have hj0 : (0 : Int) ≤ (j : Int) := by omega
            have hjI : (j : Int) < (n : Int) := by omega
            obtain ⟨y, hyd⟩ : ∃ y, y = xs.getD j 0 := ⟨_, rfl⟩
            rw [← hyd] at c0 c1' c2' c3
            have hij : k + j < s.size := by omega
            have h256 : s[k + j].toNat < 256 := UInt8.toNat_lt _
            have hbd := rareJ_bound xs ks s k j
            obtain ⟨b, hb⟩ : ∃ b, y.getLsbD (s[k + j].toNat) = b := ⟨_, rfl⟩
            obtain ⟨m, hm⟩ : ∃ m, decide (y ∈ ks) = m := ⟨_, rfl⟩
            have hsu := hid (show rareJ xs ks s k (j + 1) = rareJ xs ks s k j + if m = true ∧ b = true then 1 else 0 from by
              show rareJ xs ks s k j + _ = _
              congr 1
              show (if xs.getD j 0 ∈ ks ∧ (xs.getD j 0).getLsbD (s.data[k + j]?.getD 0).toNat = true then (1 : Int) else 0) = _
              rw [Array.getElem?_eq_getElem hij, ← hyd, ← hm, ← hb]
              simp only [decide_eq_true_eq]
              rfl)
            have hHa := hid (fun (nn : Calm wr) => (show Calls Try.prog 41 #[litC y, .int .u8 ((s[k + j].toNat : Nat) : Int)] nn.val fun e w' => e = .returned (.bool b) ∧ Chg Nothing nn.val w' from hb ▸ refHas_any y (s[k + j].toNat) nn.val (by omega)))
            have hIn := hid (fun (nn : Calm wr) => (show Calls Try.prog 40 #[.slice A2 n2 c2, litC y] nn.val fun e w' => e = .returned (.bool m) ∧ Chg Nothing nn.val w' from hm ▸ refIn_any F2 A2 n2 c2 ks y nn.val (HH2.out _ (hCr.out.trans (hch.trans nn.chg))) hlh2.out))
            obtain ⟨mt, hmtd⟩ : ∃ mt, mt = rareJ xs ks s k j := ⟨_, rfl⟩
            rw [← hmtd] at hbd hsu ⊢
            have hCj := hid hch
            replace c0 := Calm.cell hgl c0
            replace c1' := Calm.cell hgl c1'
            replace c2' := Calm.cell hgl c2'
            replace c3 := Calm.cell hgl c3
            have X0 := Calm.cell hyl y0
            have hin2 : (k : Int) + (j : Int) < (s.size : Int) := by omega
            have hw2 : IntKind.i64.wrap ((k : Int) + (j : Int)) = (k : Int) + (j : Int) := by rw [IntKind.wrap_i64]; omega
            have htn : ((k : Int) + (j : Int)).toNat = k + j := by omega
            have hix : ∀ W, (Instr.index 9 (.string s) (.int .i64 ((k : Int) + (j : Int)))).run Try.prog W = .ok (.int .u8 ((s[k + j].toNat : Nat) : Int)) W := fun W => by
              rw [run_index_string (h := Try.underlying9), dif_pos ⟨by omega, hin2⟩]
              simp only [htn]
            clear hch hyd hmtd htn hm
            cases m with
            | false =>
              clear hHa hb
              go_wp2_with fail
              try simp only [List.append_eq, List.cons_append, List.nil_append]
              refine wp_region_calm_lit (by kernel_rfl) (by kernel_rfl) ?_
              repeat (go_big_quiet_step (((go_at_call 40; exact calm_of (hIn.out _)))))
              refine wpQuiet_nil ?_
              intro _ hw'
              obtain ⟨nq, hw''⟩ := hw'
              subst hw''
              have hc := nq.chg
              have hC3 := hid (hCj.out.trans hc)
              generalize nq.val = w3 at hC3 ⊢
              clear c0 c1' c2' c3 X0 hc
              have hsu2 := hid (show rareJ xs ks s k (j + 1) = mt from by rw [hsu.out]; simp)
              go_wp2
              go_roundw
              case rel => exact ⟨j + 1, hjn, by go_num, by rw [hsu2.out], hC3.out⟩
              case measure => simp [intOf]; omega
            | true =>
              go_wp2_with fail
              try simp only [List.append_eq, List.cons_append, List.nil_append]
              refine wp_region_calm_lit (by kernel_rfl) (by kernel_rfl) ?_
              repeat (go_big_quiet_step (((first | (go_at_call 40; exact calm_of (hIn.out _)) | (go_at_call 41; exact calm_of (hHa.out _))))))
              refine wpQuiet_nil ?_
              intro _ hw'
              obtain ⟨nq, hw''⟩ := hw'
              subst hw''
              have hc := nq.chg
              have hC3 := hid (hCj.out.trans hc)
              generalize nq.val = w3 at hC3 ⊢
              clear c0 c1' c2' c3 X0 hc hb
              cases b with
              | true =>
                have hsu2 := hid (show rareJ xs ks s k (j + 1) = mt + 1 from by rw [hsu.out]; simp)
                go_wp2
                go_roundw
                case rel => exact ⟨j + 1, hjn, by go_num, by rw [hsu2.out]; try go_num, hC3.out⟩
                case measure => simp [intOf]; omega
              | false =>
                have hsu2 := hid (show rareJ xs ks s k (j + 1) = mt from by rw [hsu.out]; simp)
                go_wp2
                go_roundw
                case rel => exact ⟨j + 1, hjn, by go_num, by rw [hsu2.out], hC3.out⟩
                case measure => simp [intOf]; omega
          · obtain rfl : j = n := by omega
            have hd : decide ((j : Int) < (j : Int)) = false := decide_eq_false (by omega)
            have hm := hid (show rareJ xs ks s k j = rareN xs ks s k from by rw [← hlh.out]; rfl)
            rw [hm.out]
            obtain ⟨v, hv⟩ : ∃ v, v = rareN xs ks s k := ⟨_, rfl⟩
            rw [← hv]
            replace hv := hid hv
            have hO3 := hid (own_chg hOw.out hch (fun _ _ h => h))
            have hB3 := hid (hBx.out.chg hch id)
            have hC3 := hid (hCr.out.trans hch)
            have hbl := hid (hB3.out.lt)
            clear hch x0
            go_wp2_with (at_builtin; refine append_one rfl _ _ 34 rfl (w.heap.size + 1) 3 (.int .i64 0) 8 Try.underlying34 infoInt rfl A1 c1 k _ rfl hO3.out (.int .i64 v) rfl rfl ?_ ?_ ?_ ?_)
            · omega
            · omega
            · have := hbl.out; omega
            intro A' c' w6 hown6 hc6 hA6
            have hO6 := hid (show IRow w6 (w.heap.size + 1) A' (k + 1) c' ((List.range (k + 1)).map (rareN xs ks s)) from by
              rw [List.range_succ, List.map_append]
              unfold IRow
              rw [List.map_append]
              show w6.ownsRow _ _ _ _ _ (_ ++ [Value.int .i64 (rareN xs ks s k)])
              rw [← hv.out, List.map_map]; exact hown6)
            have oa6 := own_of hO3.out
            have hC6 := hid (hC3.out.then hc6 (fun i hi h => by have := oa6 _ h; omega))
            have hB6 := hid (hB3.out.chg hc6 (fun h => by have := oa6 _ h; omega))
            clear hown6 hc6 hA6 hv
            go_wp2
            go_roundw
            case rel => exact ⟨k + 1, A', c', hkn, by go_num, rfl, hO6.out, hB6.out, hC6.out⟩
            case measure => simp [intOf]; omega
      · obtain rfl : k = N := by omega
        have hd : decide ((k : Int) + (n : Int) ≤ (s.size : Int)) = false := decide_eq_false (by have := hNe.out; omega)
        have hO9 := hid hown
        have hC9 := hid hchg
        clear hown hbx hchg
        go_wp2
        go_ret
        have hlen : ((List.range k).map (rareN xs ks s)).length = k := by simp
        exact ⟨⟨A1, c1, by rw [hlen]; rfl, by rw [hlen]; exact own_low hO9.out (by omega)⟩, hC9.out⟩
end Go.Proofs.Ytlpgbnbklddfaaa

/- The document's Counts and Find of layer 12. -/
namespace Go.Proofs.Ytlpgbnbklddfaaa
open Go.RowKit
set_option linter.unusedVariables false
theorem e12_not {xs : List Cls} {K : Int} {s : ByteArray} {size least : Int} (h : ¬ e12 xs K s.size size least = 0) : y12 xs K s size least = [] ∧ n12 xs K s size least = 0 := by unfold y12 n12; rw [if_neg h, if_neg h]; exact ⟨rfl, rfl⟩
theorem e12_eq (xs : List Cls) (K n size least : Int) : e12 xs K n size least = if rightB xs K = true ∧ plainB xs = true then (if 0 < ((freqL xs least).length : Int) ∧ sizeBad xs.length n size = true then 50 else 0) else 170 := rfl
set_option maxHeartbeats 8000000 in
set_option maxRecDepth 100000 in
theorem refCounts12_any (F : Nat → Prop) (A : Option Addr) (n c : Nat) (xs : List Cls) (K : Int) (s : ByteArray) (size least : Int) (w : World) (H : ClsRow F w A n c xs) (hl : xs.length = n) (hn9 : n ≤ 1000000000) (hs : s.size ≤ 100000000) :
    Calls Try.prog 21 #[.agg #[.slice A n c, .int .i64 K], .string s, .int .i64 size, .int .i64 least] w fun e w' => GivesSym w.heap.size w' e (y12 xs K s size least) (n12 xs K s size least) (e12 xs K s.size size least) ∧ Chg Nothing w w' := by
  have hX := hid (Blk.new w #[.slice A n c, .int .i64 K] 24)
  have x0 := hX.out.cell 0 (v := .slice A n c) rfl
  have x1 := hX.out.cell 1 (v := .int .i64 K) rfl
  have hw0 := hid ((Chg.refl Nothing w).alloc (.cells #[.slice A n c, .int .i64 K] 24))
  have HH := hid (fun (w' : World) (hc : Chg Nothing w w') => H.chg hc (fun _ _ _ h => h))
  have hR := hid (refRight7_any F A n c xs K _ (HH.out _ hw0.out) hl)
  have hP := hid (fun (w' : World) (hc : Chg Nothing w w') => refPlain_any F A n c xs K w' (HH.out _ hc) hl hn9)
  have hPa := hid (fun (w' : World) (hc : Chg Nothing w w') => refPart_any F A n c xs K least true w' (HH.out _ hc) hl hn9)
  rw [partL_true] at hPa
  have hSz := hid (fun w => refSize_bad n s.size size w)
  have hCn := hid (fun w => refCount_any n s.size size w)
  have hCo := hid (fun (w' : World) (hc : Chg Nothing w w') => (refCounts8_any F A n c xs K s w' (HH.out _ hc) hl hs).mono (R' := fun e w'' => ∃ A5 c5, e = .returned (.slice A5 (countsR xs K s).length c5) ∧ IRow w'' w'.heap.size A5 (countsR xs K s).length c5 (countsR xs K s) ∧ Chg Nothing w' w'') (fun e w'' h => by obtain ⟨⟨A5, c5, e5, h5⟩, hc5⟩ := h; exact ⟨A5, c5, e5, h5, hc5⟩))
  have hlh := hid hl
  have hmx := H.max
  have hle := H.le
  have hNFb := freqL_len xs least
  rw [hl] at hNFb
  have hEq := e12_eq xs K s.size size least
  rw [hl] at hEq
  have hbad := hid (fun (h : ¬ e12 xs K s.size size least = 0) => e12_not h)
  have hokY := hid (fun (h : e12 xs K s.size size least = 0) (hr : rightB xs K = true) => (show y12 xs K s size least = countsR xs K s from by unfold y12 countsR; rw [if_pos h, if_pos hr]))
  have hokN := hid (fun (h : e12 xs K s.size size least = 0) => (show n12 xs K s size least = ((freqL xs least).length : Int) * countS n s.size size from by unfold n12; rw [if_pos h, hlh.out]))
  obtain ⟨E, hE⟩ : ∃ E, E = e12 xs K s.size size least := ⟨_, rfl⟩
  rw [← hE] at hEq hbad hokY hokN ⊢
  replace hE := hid hE
  obtain ⟨Y, hY⟩ : ∃ Y, Y = y12 xs K s size least := ⟨_, rfl⟩
  obtain ⟨M, hM⟩ : ∃ M, M = n12 xs K s size least := ⟨_, rfl⟩
  rw [← hY] at hbad hokY ⊢
  rw [← hM] at hbad hokN ⊢
  replace hY := hid hY
  replace hM := hid hM
  have h64 := hid (fun (h : rightB xs K = true) => (show n ≤ 64 from by rw [← hlh.out]; exact (right_len h).2))
  obtain ⟨r, hr⟩ : ∃ r, r = rightB xs K := ⟨_, rfl⟩
  obtain ⟨pl, hpl⟩ : ∃ pl, pl = plainB xs := ⟨_, rfl⟩
  obtain ⟨z, hz⟩ : ∃ z, z = sizeBad (n : Int) (s.size : Int) size := ⟨_, rfl⟩
  obtain ⟨NF, hNF⟩ : ∃ NF, NF = (freqL xs least).length := ⟨_, rfl⟩
  obtain ⟨C, hC⟩ : ∃ C, C = countS n s.size size := ⟨_, rfl⟩
  have hCb := countS_bound n s.size size (by omega) (by omega)
  rw [← hC] at hCb hCn hokN
  rw [← hNF] at hPa hNFb hEq hokN
  rw [← hr] at hR hEq hokY h64
  rw [← hpl] at hP hEq
  rw [← hz] at hSz hEq
  replace hr := hid hr
  replace hpl := hid hpl
  replace hz := hid hz
  replace hNF := hid hNF
  replace hC := hid hC
  replace hEq := hid hEq
  clear H hl
  go_enter Try.func21, Try.ntmps21
  go_wp2_with fail
  refine hR.out.mono ?_
  rintro e w1 ⟨rfl, hc1⟩
  have hC1 := hid (hw0.out.trans hc1)
  have hX1 := hid (hX.out.chg hc1 id)
  clear hc1 x0 x1 hX hw0 hR
  cases r with
  | false =>
    have hE1 : E = 170 := by rw [hEq.out]; simp
    subst hE1
    obtain ⟨rfl, rfl⟩ := hbad.out (by decide)
    go_wp2
    go_ret3
    exact ⟨⟨none, 0, rfl, World.ownsRow_nil _ _ _ _⟩, hC1.out⟩
  | true =>
    have hn64 := h64.out rfl
    have y0 := hX1.out.cell 0 (v := .slice A n c) rfl
    have y1 := hX1.out.cell 1 (v := .int .i64 K) rfl
    go_wp2_with fail
    refine (hP.out _ hC1.out).mono ?_
    rintro e w2 ⟨rfl, hc2⟩
    have hC2 := hid (hC1.out.trans hc2)
    have hX2 := hid (hX1.out.chg hc2 id)
    clear hc2 y0 y1 hX1 hP hC1
    cases pl with
    | false =>
      have hE1 : E = 170 := by rw [hEq.out]; simp
      subst hE1
      obtain ⟨rfl, rfl⟩ := hbad.out (by decide)
      go_wp2
      go_ret3
      exact ⟨⟨none, 0, rfl, World.ownsRow_nil _ _ _ _⟩, hC2.out⟩
    | true =>
      have y0 := hX2.out.cell 0 (v := .slice A n c) rfl
      have y1 := hX2.out.cell 1 (v := .int .i64 K) rfl
      go_wp2_with fail
      refine (hPa.out _ hC2.out).mono ?_
      rintro e w3 ⟨A3, c3, rfl, -, hc3⟩
      have hC3 := hid (hC2.out.trans hc3)
      have hX3 := hid (hX2.out.chg hc3 id)
      clear hc3 y0 y1 hX2 hPa hC2
      have y0 := hX3.out.cell 0 (v := .slice A n c) rfl
      have y1 := hX3.out.cell 1 (v := .int .i64 K) rfl
      have hlx := hX3.out.lt
      have halb := al_bound NF C hCb.1 hCb.2 (by omega)
      have hwp : IntKind.i64.wrap ((NF : Int) * C) = (NF : Int) * C := by rw [IntKind.wrap_i64]; omega
      by_cases h0 : 0 < NF
      · have e0 : (0 : Int) < (NF : Int) := by omega
        go_wp2_with fail
        refine (hSz.out _).mono ?_
        rintro e w4 ⟨rfl, rfl⟩
        cases z with
        | true =>
          have hE1 : E = 50 := by rw [hEq.out]; first | (simp [h0]; done) | (simp; omega)
          subst hE1
          obtain ⟨rfl, rfl⟩ := hbad.out (by decide)
          go_wp2
          go_ret3
          exact ⟨⟨none, 0, rfl, World.ownsRow_nil _ _ _ _⟩, hC3.out⟩
        | false =>
          have hE1 : E = 0 := by rw [hEq.out]; simp
          subst hE1
          obtain rfl := hokY.out rfl (by first | rfl | trivial)
          obtain rfl := hokN.out rfl
          have hS := hid (fun (m : Calm w4) => (⟨Calm.cell hlx y0 m, Calm.cell hlx y1 m⟩ : m.val.cell? ⟨w.heap.size, 0, none⟩ = some (.slice A n c) ∧ m.val.cell? ⟨w.heap.size, 1, none⟩ = some (.int .i64 K)))
          have hd0 := hid ((Chg.refl Nothing w4).drew)
          have hC4 := hid hC3.out
          go_wp2_with fail
          go_region_held3 (fun w' => w'.cell? ⟨w.heap.size, 0, none⟩ = some (.slice A n c) ∧ w'.cell? ⟨w.heap.size, 1, none⟩ = some (.int .i64 K))
            (first | exact hS.out ⟨_, hd0.out⟩ | exact hS.out ⟨_, hd0.out.trans hc5⟩)
            (first
            | (go_at_call 18; with_reducible refine (hCo.out _ (hC4.out.trans hd0.out)).mono ?_; rintro e w5 ⟨A5, c5, rfl, hO5, hc5⟩; replace hO5 := hid hO5)
            | (go_at_call 49; with_reducible refine (hCn.out _).mono ?_; rintro e w6 ⟨rfl, rfl⟩))
          all_goals
            have hC9 := hid (hC4.out.trans (hd0.out.trans hc5))
            have hlo := hid (show w.heap.size ≤ w4.drew.heap.size from hC4.out.size)
            clear hc5
            go_wp2
            go_ret3
            exact ⟨⟨A5, c5, by first | rfl | simp [hwp], own_low hO5.out hlo.out⟩, hC9.out⟩
      · have e0 : decide ((0 : Int) < (NF : Int)) = false := decide_eq_false (by omega)
        have hE1 : E = 0 := by rw [hEq.out]; simp; omega
        subst hE1
        obtain rfl := hokY.out rfl (by first | rfl | trivial)
        obtain rfl := hokN.out rfl
        generalize w3 = w4 at *
        have hS := hid (fun (m : Calm w4) => (⟨Calm.cell hlx y0 m, Calm.cell hlx y1 m⟩ : m.val.cell? ⟨w.heap.size, 0, none⟩ = some (.slice A n c) ∧ m.val.cell? ⟨w.heap.size, 1, none⟩ = some (.int .i64 K)))
        have hd0 := hid ((Chg.refl Nothing w4).drew)
        have hC4 := hid hC3.out
        go_wp2_with fail
        go_region_held3 (fun w' => w'.cell? ⟨w.heap.size, 0, none⟩ = some (.slice A n c) ∧ w'.cell? ⟨w.heap.size, 1, none⟩ = some (.int .i64 K))
          (first | exact hS.out ⟨_, hd0.out⟩ | exact hS.out ⟨_, hd0.out.trans hc5⟩)
          (first
          | (go_at_call 18; with_reducible refine (hCo.out _ (hC4.out.trans hd0.out)).mono ?_; rintro e w5 ⟨A5, c5, rfl, hO5, hc5⟩; replace hO5 := hid hO5)
          | (go_at_call 49; with_reducible refine (hCn.out _).mono ?_; rintro e w6 ⟨rfl, rfl⟩))
        all_goals
          have hC9 := hid (hC4.out.trans (hd0.out.trans hc5))
          have hlo := hid (show w.heap.size ≤ w4.drew.heap.size from hC4.out.size)
          clear hc5
          go_wp2
          go_ret3
          exact ⟨⟨A5, c5, by first | rfl | simp [hwp], own_low hO5.out hlo.out⟩, hC9.out⟩
set_option maxHeartbeats 4000000 in
set_option maxRecDepth 100000 in
theorem refFind12_any (F : Nat → Prop) (A : Option Addr) (n c : Nat) (xs : List Cls) (K : Int) (s : ByteArray) (size least : Int) (w : World) (H : ClsRow F w A n c xs) (hl : xs.length = n) (hn9 : n ≤ 1000000000) (hs : s.size ≤ 100000000) :
    Calls Try.prog 23 #[.agg #[.slice A n c, .int .i64 K], .string s, .int .i64 size, .int .i64 least] w fun e w' => GivesSym w.heap.size w' e (f12 xs K s size least) (n12 xs K s size least) (e12 xs K s.size size least) ∧ Chg Nothing w w' := by
  have hX := Blk.new w #[.slice A n c, .int .i64 K] 24
  have x0 := hX.cell 0 (v := .slice A n c) rfl
  have x1 := hX.cell 1 (v := .int .i64 K) rfl
  have hlx := hX.lt
  have hw0 := hid ((Chg.refl Nothing w).alloc (.cells #[.slice A n c, .int .i64 K] 24))
  have hCo := hid (refCounts12_any F A n c xs K s size least (w.alloc (.cells #[.slice A n c, .int .i64 K] 24)) (H.chg hw0.out (fun _ _ _ h => h)) hl hn9 hs)
  have hmx := H.max
  have hle := H.le
  have hyl := y12_len xs K s size least
  unfold f12
  clear hX hl H
  generalize y12 xs K s size least = ys at *
  generalize n12 xs K s size least = num at *
  generalize e12 xs K s.size size least = E at *
  go_enter Try.func23, Try.ntmps23
  go_wp2_with fail
  refine hCo.out.mono ?_
  rintro e w1 ⟨⟨A1, c1, rfl, hO1⟩, hc1⟩
  have y0 := (hc1.cells.1 _ _ hlx).trans x0
  have y1 := (hc1.cells.1 _ _ hlx).trans x1
  have hC1 := hid (hw0.out.trans hc1)
  have hHi := hid (hits_refM ys K A1 c1 w1 _ hO1 (by omega))
  have hn1 := hid hc1.size
  clear x0 x1 hlx hc1 hO1
  go_wp2_with fail
  refine hHi.out.mono ?_
  rintro e w2 ⟨A2, c2, rfl, hO2, hc2⟩
  have hC2 := hid (hC1.out.trans hc2)
  have hb := hid hC1.out.size
  replace hO2 := hid hO2
  clear hc2 y0 y1
  go_wp2
  go_ret3
  exact ⟨⟨A2, c2, rfl, own_low hO2.out hb.out⟩, hC2.out⟩
end Go.Proofs.Ytlpgbnbklddfaaa

/- Layer 12: few, alive. -/
namespace Go.Proofs.Ytlpgbnbklddfaaa
open Go.RowKit
set_option linter.unusedVariables false
abbrev s12a : ByteArray := ⟨#[97, 98, 99, 97]⟩
abbrev s12b : ByteArray := ⟨#[97, 98, 99, 97, 98, 99, 97]⟩
abbrev s12c : ByteArray := ⟨#[97, 98]⟩
abbrev s12d : ByteArray := ⟨#[97]⟩
abbrev s12e : ByteArray := ⟨#[97, 98, 99, 97, 98]⟩
abbrev s12f : ByteArray := ⟨#[99]⟩
theorem dec12a : freqL (textC s12a) 2 = [ofC s12d] ∧ (rareL (textC s12a) 2).length = 2 ∧ (rareL (textC s12a) 2).getD 1 0 = ofC s12f := by decide +kernel
theorem dec12b : y12 (textC s12a) 1 s12b 8 2 = [0, 4, 4, 0] ∧ n12 (textC s12a) 1 s12b 8 2 = 9 ∧ e12 (textC s12a) 1 (s12b.size : Nat) 8 2 = 0 := by decide +kernel
theorem dec12c : f12 (textC s12a) 1 s12b 8 9 = [0, 3] ∧ n12 (textC s12a) 1 s12b 8 9 = 0 ∧ e12 (textC s12a) 1 (s12b.size : Nat) 8 9 = 0 := by decide +kernel
theorem dec12d : y12 [ofC s12c] 0 s12d 1 1 = [] ∧ n12 [ofC s12c] 0 s12d 1 1 = 0 ∧ e12 [ofC s12c] 0 (s12d.size : Nat) 1 1 = 170 := by decide +kernel
theorem dec12e : y12 (textC s12a) 1 s12b 3 1 = [] ∧ n12 (textC s12a) 1 s12b 3 1 = 0 ∧ e12 (textC s12a) 1 (s12b.size : Nat) 3 1 = 50 := by decide +kernel
theorem dec12f : sumsN (textC s12a) 1 s12e.size = 2 ∧ ((List.range 2).map fun q => rareTo (textC s12a) (rareL (textC s12a) 2) s12e s12e.size q (textC s12a).length) = [2, 0] := by decide +kernel
theorem lit0440 (w : World) : IntsAt (fun _ => True) (w.alloc (.cells #[.int .i64 0, .int .i64 4, .int .i64 4, .int .i64 0] 3)) (some ⟨w.heap.size, 0, none⟩) 4 4 [0, 4, 4, 0] := ElsAt.new w _ _ _ 4 rfl rfl (by decide) trivial
theorem lit03 (w : World) : IntsAt (fun _ => True) (w.alloc (.cells #[.int .i64 0, .int .i64 3] 3)) (some ⟨w.heap.size, 0, none⟩) 2 2 [0, 3] := ElsAt.new w _ _ _ 2 rfl rfl (by decide) trivial
theorem lit20 (w : World) : IntsAt (fun _ => True) (w.alloc (.cells #[.int .i64 2, .int .i64 0] 3)) (some ⟨w.heap.size, 0, none⟩) 2 2 [2, 0] := ElsAt.new w _ _ _ 2 rfl rfl (by decide) trivial
theorem same_intsM {w' : World} {A B : Option Addr} {n c m d : Nat} {xs : List Int} {F G : Nat → Prop} (h : IntsAt F w' A n c xs) (h' : IntsAt G w' B m d xs) : Calls Try.prog 15 #[.slice A n c, .slice B m d] w' fun e w'' => e = .returned (.bool true) ∧ Chg Nothing w' w'' :=
  (samePlaces_any F G A B n c m d xs xs w' h h').mono (fun e w'' ⟨he, q, hq⟩ => ⟨by rw [he]; simp, hq ▸ (Chg.refl _ _).drewN q⟩)
theorem row_one (w : World) (x : Cls) : ClsRow (fun _ => True) (w.alloc (.cells #[.int .u64 (wd x 0), .int .u64 (wd x 1), .int .u64 (wd x 2), .int .u64 (wd x 3)] 51)) (some ⟨w.heap.size, 0, none⟩) 1 1 [x] := by
  refine ⟨(fun h => by cases h), Nat.le_refl _, by decide, by simp [clsL], fun _ => ⟨w.heap.size, 0, rfl, trivial, by rw [World.size_alloc]; omega, fun j hj => ?_⟩⟩
  rw [Nat.zero_add]
  refine (Blk.new w _ _).cell j ?_
  have h4 : j < 4 := by omega
  have : j = 0 ∨ j = 1 ∨ j = 2 ∨ j = 3 := by omega
  rcases this with rfl | rfl | rfl | rfl <;> rfl
set_option maxHeartbeats 4000000 in
set_option maxRecDepth 100000 in
theorem few12_any (A : Option Addr) (n c : Nat) (K : Int) (s : ByteArray) (w : World) (hs : s.size ≤ 9223372036854775807) (hn : n ≤ 9223372036854775807) :
    Calls Try.prog 9 #[.agg #[.slice A n c, .int .i64 K], .string s] w fun e w' => e = .returned (.bool (decide (n ≤ 100) && decide (s.size ≤ 300))) ∧ Chg Nothing w w' := by
  have hX := Blk.new w #[.slice A n c, .int .i64 K] 24
  have x0 := hX.cell 0 (v := .slice A n c) rfl
  have hlx := hX.lt
  by_cases h1 : n ≤ 100
  · have e1 : decide ((n : Int) ≤ 100) = true := decide_eq_true (by omega)
    by_cases h2 : s.size ≤ 300
    · have e2 : decide ((s.size : Int) ≤ 300) = true := decide_eq_true (by omega)
      have e3 := hid (show (decide (n ≤ 100) && decide (s.size ≤ 300)) = true from by simp [h1, h2])
      rw [e3.out]
      clear hX h1 h2
      go_enter Try.func9, Try.ntmps9
      go_wp2
      go_ret
      exact ⟨rfl, (Chg.refl _ _).alloc _⟩
    · have e2 : decide ((s.size : Int) ≤ 300) = false := decide_eq_false (by omega)
      have e3 := hid (show (decide (n ≤ 100) && decide (s.size ≤ 300)) = false from by simp [h2])
      rw [e3.out]
      clear hX h1 h2
      go_enter Try.func9, Try.ntmps9
      go_wp2
      go_ret
      exact ⟨rfl, (Chg.refl _ _).alloc _⟩
  · have e1 : decide ((n : Int) ≤ 100) = false := decide_eq_false (by omega)
    have e3 := hid (show (decide (n ≤ 100) && decide (s.size ≤ 300)) = false from by simp [h1])
    rw [e3.out]
    clear hX h1
    go_enter Try.func9, Try.ntmps9
    go_wp2
    go_ret
    exact ⟨rfl, (Chg.refl _ _).alloc _⟩
end Go.Proofs.Ytlpgbnbklddfaaa
