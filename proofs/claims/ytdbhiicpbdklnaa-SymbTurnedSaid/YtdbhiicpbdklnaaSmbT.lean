/- Layer 11: the law SymbTurned. -/
import Derived.Test.YtdbhiicpbdklnaaSmbS
import Derived.Test.YtdbhiicpbdklnaaBunA
import Derived.Laws.BytesArg
namespace Go.Proofs.Ytdbhiicpbdklnaa
open Go.RowKit
set_option linter.unusedVariables false
theorem infoU8 : (Try.prog.info? 5).map (fun i => (i.zero, i.size, i.bytes)) = some (some (.int .u8 0), 1, 1) := by kernel_rfl
def TnA (w : World) (b7 : Nat) (A0 : Option Addr) (l c0 : Nat) (K : Int) (xs : List Cls) (iv : Value) (wr : World) : Prop := ∃ (k : Nat) (A : Option Addr) (c : Nat), k ≤ l ∧ iv = .int .i64 k ∧ Blk wr b7 #[.slice A k c, .int .i64 K] 24 ∧ Blk wr w.heap.size #[.slice A0 l c0, .int .i64 K] 24 ∧ CRow wr (b7 + 1) A k c (xs.reverse.take k) ∧ Chg Nothing w wr
theorem tna_step {w wr w3 : World} {b7 l c0 k c c' : Nat} {A0 A A' : Option Addr} {K : Int} {xs : List Cls} (hl : xs.length = l) (hk : k < l) (hb : w.heap.size < b7) (hB : Blk wr b7 #[.slice A k c, .int .i64 K] 24) (hL : Blk wr w.heap.size #[.slice A0 l c0, .int .i64 K] 24) (hO : CRow wr (b7 + 1) A k c (xs.reverse.take k)) (hC : Chg Nothing w wr)
    (hc3 : Chg (Of A) wr w3) (hown : w3.ownsRow (b7 + 1) 27 4 (.slice A' (k + 1) c') (k + 1) ((xs.reverse.take k).flatMap clsL ++ clsL (xs.getD (l - 1 - k) 0))) :
    ∀ V, V = w3.setCell ⟨b7, 0, none⟩ (.slice A' (k + 1) c') → TnA w b7 A0 l c0 K xs (.int .i64 (k + 1 : Nat)) V := by
  rintro V rfl
  have hof := fun j hj => (own_of hO j hj).1
  have hof' := fun j hj => (own_of hown j hj).1
  have hs : Chg (One b7) w3 (w3.setCell ⟨b7, 0, none⟩ (.slice A' (k + 1) c')) := (Chg.refl _ _).setOne 0 _
  refine ⟨k + 1, A', c', hk, rfl, (hB.chg hc3 (fun h => by have := hof _ h; omega)).set 0 _, (hL.chg hc3 (fun h => by have := hof _ h; omega)).chg hs (fun e => absurd (show w.heap.size = b7 from e) (by omega)), ?_, (hC.then hc3 (fun j hj h => by have := hof j h; omega)).then hs (fun j hj h => absurd (show j = b7 from h) (by omega))⟩
  rw [← hl] at hown
  rw [rev_take xs k (by omega)]
  unfold CRow
  rw [List.flatMap_append, show [xs.getD (xs.length - 1 - k) 0].flatMap clsL = clsL (xs.getD (xs.length - 1 - k) 0) from by simp]
  exact own_chg hown hs (fun j hj h => by have := hof' j hj; have h2 : j = b7 := h; omega)
def TnB (wT : World) (s : ByteArray) (ov iv : Value) (wr : World) : Prop := ∃ (k : Nat) (A : Option Addr) (c : Nat), k ≤ s.size ∧ iv = .int .i64 k ∧ ov = .slice A k c ∧ wr.ownsRow wT.heap.size 5 1 (.slice A k c) k (((revB s).take k).map (Value.int .u8)) ∧ Chg Nothing wT wr
/-- A row of bytes of one's own, as a string. -/
theorem conv_own {w : World} {base : Nat} {A : Option Addr} {n c : Nat} {bs : List Int} (h : w.ownsRow base 5 1 (.slice A n c) n (bs.map (Value.int .u8))) : (convert 49 9 (.slice A n c)).run Try.prog w = .ok (.string (strOfNums bs)) w := by
  have hE := ElsAt.of_own (enc := Value.int .u8) (d := 0) (xs := bs) h
  have hl := hE.2.2.2.1
  rcases h.2 with ⟨e1, h0⟩ | ⟨g, cap, cur, e1, hb, hg, -⟩
  · injection e1 with e1 e2 e3
    subst e1 e3 h0
    have : bs = [] := List.eq_nil_of_length_eq_zero hl
    subst this
    exact run_convert_bytes_nil _ _ _ Try.underlying49 Try.underlying5 _ _ _ Try.underlying9
  · injection e1 with e1 e2 e3
    subst e1 e3
    refine run_convert_bytes_arg (P := Try.prog) _ _ _ Try.underlying49 Try.underlying5 _ 0 n c bs hl (fun i hi => ?_) _ Try.underlying9
    obtain ⟨g2, o2, e2, -, -, h3⟩ := hE.at_ hi
    injection e2 with e2; injection e2 with e3 e4; subst e3 e4
    exact h3
theorem revB_str (s : ByteArray) : (strOfNums (revB s)).size = s.size ∧ ∀ i, i < s.size → (strOfNums (revB s)).data[i]?.getD 0 = s.data[s.size - 1 - i]?.getD 0 := by
  refine ⟨by rw [strOfNums_size, revB_len], fun i hi => ?_⟩
  unfold strOfNums
  simp only [List.getElem?_toArray, List.getElem?_map]
  unfold revB
  simp only [List.getElem?_map, List.getElem?_range hi, Option.map_some, Option.getD_some, Int.toNat_natCast]
  exact UInt8.ofNat_toNat
def TnC (w2 : World) (m : Nat) (iv : Value) (wr : World) : Prop := ∃ i q : Nat, i ≤ m ∧ iv = .int .i64 i ∧ wr = w2.drewN q
set_option maxHeartbeats 16000000 in
set_option maxRecDepth 100000 in
theorem SymbTurned_walk (A : Option Addr) (l c : Nat) (xs : List Cls) (K : Int) (s : ByteArray) (size : Int) (w : World) (H : LeafRow w A l c xs) (hl : xs.length = l) (hf : l * 32 ≤ 140737488351232) (hK : -9223372036854775808 ≤ K ∧ K ≤ 9223372036854775807) (hs : s.size ≤ 140737488351232) (hz1 : -9223372036854775808 ≤ size) (hz2 : size ≤ 9223372036854775807) :
    Calls Try.prog 8 #[.agg #[.slice A l c, .int .i64 K], .string s, .int .i64 size] w fun e w' => e = .returned (.bool true) ∧ Chg Nothing w w' := by
  have hFw := hid (fun w => few11_any A l c K s w (by omega) (by omega))
  have hw0 := hid ((Chg.refl Nothing w).alloc (.cells #[.slice A l c, .int .i64 K] 24))
  have hL := Blk.new w #[.slice A l c, .int .i64 K] 24
  have hHH := hid (fun (w' : World) (hc : Chg Nothing w w') => H.calm hc)
  have hlh := hid hl
  have hle := H.le
  have hmx := H.max
  have x0 := hL.cell 0 (v := .slice A l c) rfl
  have x1 := hL.cell 1 (v := .int .i64 K) rfl
  have hlx := hL.lt
  have hLh := hid hL
  clear H hl hL
  by_cases hfew : (decide (l ≤ 100) && decide (s.size ≤ 300)) = true
  · rw [hfew] at hFw
    simp only [Bool.and_eq_true, decide_eq_true_eq] at hfew
    obtain ⟨hl1, hs1⟩ := hfew
    go_enter Try.func8, Try.ntmps8
    go_wp2_with fail
    refine (hFw.out _).mono ?_
    rintro e w5 ⟨rfl, hc5⟩
    have y0 := (hc5.cells.1 _ _ hlx).trans x0
    have y1 := (hc5.cells.1 _ _ hlx).trans x1
    have hly := Nat.lt_of_lt_of_le hlx hc5.size
    have hC5 := hid ((hw0.out.trans hc5).alloc (.cells #[.slice none 0 0, .int .i64 K] 24))
    have hL5 := hid ((hLh.out.chg hc5 id).alloc (.cells #[.slice none 0 0, .int .i64 K] 24))
    have hB5 := hid (Blk.new w5 #[.slice none 0 0, .int .i64 K] 24)
    have hbl := hid (show w.heap.size < w5.heap.size from hly)
    clear hc5 x0 x1 hlx hLh
    go_wp2_with fail
    obtain ⟨b7, hb7⟩ : ∃ b7, b7 = w5.heap.size := ⟨_, rfl⟩
    rw [← hb7] at hB5 hbl ⊢
    clear hb7
    go_loopw [29] (fun iv wr => TnA w b7 A l c K xs iv wr) (fun iv _ => l - (intOf iv).toNat)
    case atStart => exact ⟨0, none, 0, Nat.zero_le _, rfl, hB5.out, hL5.out, World.ownsRow_nil _ _ _ _, hC5.out⟩
    case round =>
      obtain ⟨k, A1, c1, hk, rfl, hBr, hLr, hOr, hcr⟩ := hrel
      have z0 := hBr.cell 0 (v := .slice A1 k c1) rfl
      have z1 := hBr.free 0
      have zl := hBr.lt
      have x0 := hLr.cell 0 (v := .slice A l c) rfl
      have xl := hLr.lt
      rcases Nat.lt_or_ge k l with hkl | hkl
      · obtain ⟨g, o, rfl, -, hgl, c0, c1', c2, c3⟩ := ClsRow.four (hHH.out _ hcr) hlh.out (show l - 1 - k < l by omega)
        have hk0 : (0 : Int) ≤ (k : Int) := by omega
        have hkI : (k : Int) < (l : Int) := by omega
        have hi1 : (0 : Int) ≤ (l : Int) - 1 - (k : Int) := by omega
        have hi3 : (k : Int) ≤ (l : Int) - 1 := by omega
        have hi2 : (l : Int) - 1 - (k : Int) < (l : Int) := by omega
        have hwi : IntKind.i64.wrap ((l : Int) - 1 - (k : Int)) = (l : Int) - 1 - (k : Int) := by rw [IntKind.wrap_i64]; omega
        have hwj : IntKind.i64.wrap ((l : Int) - 1) = (l : Int) - 1 := by rw [IntKind.wrap_i64]; omega
        have htn : ((l : Int) - 1 - (k : Int)).toNat = l - 1 - k := by omega
        obtain ⟨y, hyd⟩ : ∃ y, y = xs.getD (l - 1 - k) 0 := ⟨_, rfl⟩
        rw [← hyd] at c0 c1' c2 c3
        replace hyd := hid hyd
        have hBrh := hid hBr
        have hLrh := hid hLr
        have hOrh := hid hOr
        have hcrh := hid hcr
        have hm1 : k + 1 ≤ maxLen := by unfold maxLen; omega
        have hm2 : (k + 1) * 32 ≤ 140737488355328 := by omega
        have hbw : b7 + 1 ≤ wr.heap.size := zl
        clear hBr hLr hOr hcr
        go_wp2_with fail
        go_region_law
          (refine step_append_gen (o := ⟨some 45, _, _, _, _, _⟩) rfl _ _ 22 rfl (b7 + 1) 27 (.agg #[.int .u64 0, .int .u64 0, .int .u64 0, .int .u64 0]) 4 32 Try.underlying22 infoCl rfl (by decide) A1 c1 k _ rfl (own_chg hOrh.out (((Chg.refl Nothing wr).alloc _).drew) (fun _ _ h => h)) (some ⟨wr.heap.size, 0, none⟩) 1 1 (clsL y) rfl rfl (fun e => by cases e) (Nat.le_refl _) (fun ad e j u hj => by injection e with e; subst e; exact clsL_new _ _ _ _ hj) (clsL_one _) hm1 hm2 (Nat.le_trans hbw (((Chg.refl Nothing wr).alloc (.cells #[.int .u64 (wd y 0), .int .u64 (wd y 1), .int .u64 (wd y 2), .int .u64 (wd y 3)] 27)).drew).size) ?_; intro A4 c4 w4 hown4 hc4 hA4; have hB4 := (hBrh.out.chg (((Chg.refl Nothing wr).alloc _).drew) id).chg hc4 (fun h => by have := own_of hOrh.out _ h; omega); have e4 := hB4.free 0; have y4 := hB4.cell 0 (v := .slice A1 k c1) rfl; have hl4 := hB4.lt; clear hB4)
        all_goals
          have hD := hid (tna_step hlh.out hkl hbl.out hBrh.out hLrh.out hOrh.out hcrh.out (Chg.then (Chg.up (S := Of A1) (((Chg.refl Nothing wr).alloc _).drew)) hc4 (fun _ _ h => h)) (by rw [← hyd.out]; exact hown4) _ rfl)
          clear hown4 hc4 hA4 y4
          go_wp2
          go_roundw
          case rel => exact hD.out
          case measure => simp [intOf]; omega
      · obtain rfl : l = k := by omega
        have hd : decide ((l : Int) < (l : Int)) = false := decide_eq_false (by omega)
        have hO2 := hid (show CRow wr (b7 + 1) A1 l c1 xs.reverse from by rw [List.take_of_length_le (by simp; have := hlh.out; omega)] at hOr; exact hOr)
        have hB2 := hid hBr
        have hL2 := hid hLr
        have hC2 := hid hcr
        clear hOr hBr hLr hcr
        have z0 := hB2.out.cell 0 (v := .slice A1 l c1) rfl
        have z1 := hB2.out.cell 1 (v := .int .i64 K) rfl
        have x1 := hL2.out.cell 1 (v := .int .i64 K) rfl
        have hlt7 := hB2.out.lt
        generalize wr = wT at *
        go_wp2_with fail
        go_loopw [9, 50] (fun ov iv wr => TnB wT s ov iv wr) (fun _ iv _ => s.size - (intOf iv).toNat)
        case atStart => exact ⟨0, none, 0, Nat.zero_le _, rfl, rfl, World.ownsRow_nil _ _ _ _, Chg.refl _ _⟩
        case round =>
          obtain ⟨k, Ab, cb, hk, rfl, rfl, hOr, hcr⟩ := hrel
          rcases Nat.lt_or_ge k s.size with hks | hks
          · have hk0 : (0 : Int) ≤ (k : Int) := by omega
            have hkI : (k : Int) < (s.size : Int) := by omega
            have hi1 : (0 : Int) ≤ (s.size : Int) - 1 - (k : Int) := by omega
            have hi3 : (k : Int) ≤ (s.size : Int) - 1 := by omega
            have hi2 : (s.size : Int) - 1 - (k : Int) < (s.size : Int) := by omega
            have hwi : IntKind.i64.wrap ((s.size : Int) - 1 - (k : Int)) = (s.size : Int) - 1 - (k : Int) := by rw [IntKind.wrap_i64]; omega
            have hwj : IntKind.i64.wrap ((s.size : Int) - 1) = (s.size : Int) - 1 := by rw [IntKind.wrap_i64]; omega
            have hsl : s.size - 1 - k < s.size := by omega
            obtain ⟨bv, hbv⟩ : ∃ bv : Int, bv = ((s[s.size - 1 - k].toNat : Nat) : Int) := ⟨_, rfl⟩
            have hix : ∀ W, (Instr.index 9 (.string s) (.int .i64 ((s.size : Int) - 1 - (k : Int)))).run Try.prog W = .ok (.int .u8 bv) W := fun W => by
              rw [run_index_string (h := Try.underlying9), dif_pos ⟨hi1, hi2⟩, hbv]
              simp only [show ((s.size : Int) - 1 - (k : Int)).toNat = s.size - 1 - k from by omega]
            have htk := hid (show (revB s).take (k + 1) = (revB s).take k ++ [bv] from by rw [revB_take s k hks, hbv, Array.getElem?_eq_getElem hsl]; rfl)
            have hO9 := hid hOr
            have hc9 := hid hcr
            clear hOr hcr hbv
            go_wp2_with (at_builtin; refine append_one rfl _ _ 49 rfl wT.heap.size 5 (.int .u8 0) 1 Try.underlying49 infoU8 rfl Ab cb k _ rfl hO9.out (.int .u8 bv) rfl rfl ?_ ?_ ?_ ?_)
            · omega
            · omega
            · exact hc9.out.size
            intro A' c' w6 hown6 hc6 hA6
            have hO6 := hid (show w6.ownsRow wT.heap.size 5 1 (.slice A' (k + 1) c') (k + 1) (((revB s).take (k + 1)).map (Value.int .u8)) from by rw [htk.out, List.map_append, List.map_take]; exact hown6)
            have oa6 := own_of hO9.out
            have hC6 := hid (hc9.out.then hc6 (fun i hi h => by have := oa6 _ h; omega))
            clear hown6 hc6 hA6
            go_wp2
            go_roundw
            case rel => exact ⟨k + 1, A', c', hks, by go_num, rfl, hO6.out, hC6.out⟩
            case measure => simp [intOf]; omega
          · obtain rfl : k = s.size := by omega
            have hd : decide ((s.size : Int) < (s.size : Int)) = false := decide_eq_false (by omega)
            rw [List.take_of_length_le (by rw [revB_len]; omega)] at hOr
            have hO9 := hid hOr
            have hc9 := hid hcr
            have hC9 := hid (hC2.out.trans hcr)
            have u0 := (hcr.cells.1 _ _ xl).trans x0
            have u1 := (hcr.cells.1 _ _ xl).trans x1
            have v0 := (hcr.cells.1 _ _ hlt7).trans z0
            have v1 := (hcr.cells.1 _ _ hlt7).trans z1
            have hxl9 := Nat.lt_of_lt_of_le xl hcr.size
            have h79 := Nat.lt_of_lt_of_le hlt7 hcr.size
            have hR9 := hid (own_chg hO2.out hcr (fun _ _ h => h))
            have hP1 := hid (fun (w' : World) (hc : Chg Nothing w w') => symbCounts_any _ A l c xs K s size w' (hHH.out w' hc) (fun _ h => h) hlh.out (by omega))
            obtain ⟨hsz', hby'⟩ := revB_str s
            have hP2 := hid (fun (w' : World) (h : LeafRow w' A1 l c1 xs.reverse) => symbCounts_any _ A1 l c1 xs.reverse K (strOfNums (revB s)) size w' h (fun _ h => h) (by rw [List.length_reverse]; exact hlh.out) (by omega))
            rw [symY_rev xs K s _ size hsz' hby', symN_rev xs K s _ size hsz', hsz', amiss_rev] at hP2
            clear hOr hcr z0 z1 x0 x1 xl hlt7 hby'
            have hcv := hid (fun (w' : World) (hc : Chg Nothing wr w') => conv_own (own_chg hO9.out hc (fun _ _ h => h)))
            have hts := hid hsz'
            obtain ⟨tt, htt⟩ : ∃ tt, tt = strOfNums (revB s) := ⟨_, rfl⟩
            rw [← htt] at hP2 hcv
            clear htt hsz'
            have hyl := symY_len xs K s size
            obtain ⟨ys, hys⟩ : ∃ ys, ys = symY xs K s size := ⟨_, rfl⟩
            rw [← hys] at hP1 hP2 hyl
            obtain ⟨num, hnum⟩ : ∃ num, num = symN xs K s size := ⟨_, rfl⟩
            rw [← hnum] at hP1 hP2
            obtain ⟨E, hE⟩ : ∃ E, E = amiss xs K s.size size := ⟨_, rfl⟩
            rw [← hE] at hP1 hP2
            obtain ⟨m, hm⟩ : ∃ m, m = ys.length := ⟨_, rfl⟩
            have hQ1 := hid (fun (w' : World) (hc : Chg Nothing w w') => (hP1.out w' hc).mono (R' := fun e w'' => ∃ A5 c5, e = .returned (.tuple #[.slice A5 m c5, .int .i64 num, .int .i64 E]) ∧ IntsAt (fun _ => True) w'' A5 m c5 ys ∧ Chg Nothing w' w'') (fun e w'' ⟨⟨A5, c5, e5, h5⟩, hc5⟩ => ⟨A5, c5, by rw [hm]; exact e5, by rw [hm]; exact h5.els.mono (fun _ _ _ => trivial), hc5⟩))
            have hQ2 := hid (fun (w' : World) (h : LeafRow w' A1 l c1 xs.reverse) => (hP2.out w' h).mono (R' := fun e w'' => ∃ A5 c5, e = .returned (.tuple #[.slice A5 m c5, .int .i64 num, .int .i64 E]) ∧ IntsAt (fun _ => True) w'' A5 m c5 ys.reverse ∧ Chg Nothing w' w'') (fun e w'' ⟨⟨A5, c5, e5, h5⟩, hc5⟩ => by
              rw [List.length_reverse, ← hm] at e5 h5
              exact ⟨A5, c5, e5, h5.els.mono (fun _ _ _ => trivial), hc5⟩))
            have hrv := hid (fun i (hi : i < m) => (show ys.reverse.getD (m - 1 - i) 0 = ys.getD i 0 from by
              simp only [List.getD_eq_getElem?_getD]
              rw [List.getElem?_reverse (by omega), show ys.length - 1 - (m - 1 - i) = i from by omega]))
            rw [← hm] at hyl
            replace hm := hid hm
            clear hP1 hP2 hys hnum hE
            go_wp2_with fail
            refine (hQ1.out _ hC9.out).mono ?_
            rintro e w10 ⟨AX, cX, rfl, hX, hc10⟩
            have hX10 := hid hX
            have hC10 := hid (hC9.out.trans hc10)
            have z0 := (hc10.cells.1 _ _ h79).trans v0
            have z1 := (hc10.cells.1 _ _ h79).trans v1
            have hl7 := Nat.lt_of_lt_of_le h79 hc10.size
            have hcv10 := hcv.out _ hc10
            have hR10 := hid (show LeafRow w10 A1 l c1 xs.reverse from (RowAt.of_own (own_chg hR9.out hc10 (fun _ _ h => h))).mono (fun k hk _ => hk))
            clear hX hc10 u0 u1 v0 v1 h79 hxl9
            go_wp2_with fail
            refine (hQ2.out _ hR10.out).mono ?_
            rintro e w11 ⟨AY, cY, rfl, hY, hc11⟩
            have hY11 := hid hY
            have hX11 := hid (hX10.out.chg hc11 (fun _ _ _ h => h))
            have hC11 := hid (hC10.out.trans hc11)
            have hnX := hX11.out.2.1
            have hmX := hX11.out.2.2.1
            have hnY := hY.2.1
            have hmY := hY.2.2.1
            clear hY hc11 z0 z1 hl7 hcv10
            go_wp2_with fail
            go_loopw [98] (fun iv wr => TnC w11 m iv wr) (fun iv _ => m - (intOf iv).toNat)
            case atStart => exact ⟨0, 0, Nat.zero_le _, rfl, rfl⟩
            case round =>
              obtain ⟨i, q, hi, rfl, rfl⟩ := hrel
              rcases Nat.lt_or_ge i m with him | him
              · have hi0 : (0 : Int) ≤ (i : Int) := by omega
                have hiI : (i : Int) < (m : Int) := by omega
                obtain ⟨gx, ox, rfl, -, hgx, xx⟩ := hX11.out.at_ him
                obtain ⟨gy, oy, rfl, -, hgy, yy⟩ := hY11.out.at_ (show m - 1 - i < m by omega)
                rw [hrv.out i him] at yy
                have hi1 : (0 : Int) ≤ (m : Int) - 1 - (i : Int) := by omega
                have hi3 : (i : Int) ≤ (m : Int) - 1 := by omega
                have hi2 : (m : Int) - 1 - (i : Int) < (m : Int) := by omega
                have hwi : IntKind.i64.wrap ((m : Int) - 1 - (i : Int)) = (m : Int) - 1 - (i : Int) := by rw [IntKind.wrap_i64]; omega
                have hwj : IntKind.i64.wrap ((m : Int) - 1) = (m : Int) - 1 := by rw [IntKind.wrap_i64]; omega
                have htn : ((m : Int) - 1 - (i : Int)).toNat = m - 1 - i := by omega
                generalize ys.getD i 0 = v at xx yy
                go_wp2
                go_quiet (fail)
                go_wp2
                go_roundw
                case rel => exact ⟨i + 1, _, him, by go_num, rfl⟩
                case measure => simp [intOf]; omega
              · obtain rfl : m = i := by omega
                have hd : decide ((m : Int) < (m : Int)) = false := decide_eq_false (by omega)
                have hC12 := hid (hC11.out.drewN q)
                go_wp2_with fail
                refine (alive11 _).mono ?_
                rintro e wN ⟨rfl, hcN⟩
                have hCN := hid (hC12.out.trans hcN)
                go_wp2
                go_ret
                exact ⟨rfl, hCN.out⟩
  · have hfb : (decide (l ≤ 100) && decide (s.size ≤ 300)) = false := by simpa using hfew
    rw [hfb] at hFw
    clear hfew
    go_enter Try.func8, Try.ntmps8
    go_wp2_with fail
    refine (hFw.out _).mono ?_
    rintro e w5 ⟨rfl, hc5⟩
    have hC5 := hid (hw0.out.trans hc5)
    clear hc5 x0 x1 hlx
    go_wp2_with fail
    refine (alive11 _).mono ?_
    rintro e w6 ⟨rfl, hc6⟩
    have hC6 := hid (hC5.out.trans hc6)
    go_wp2
    go_ret
    exact ⟨rfl, hC6.out⟩
end Go.Proofs.Ytdbhiicpbdklnaa
