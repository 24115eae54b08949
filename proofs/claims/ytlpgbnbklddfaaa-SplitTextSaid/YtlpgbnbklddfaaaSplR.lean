/- Layer 12: the walk of SplitLeast. -/
import Derived.Test.YtlpgbnbklddfaaaSplQ
namespace Go.Proofs.Ytlpgbnbklddfaaa
open Go.RowKit
set_option linter.unusedVariables false
theorem amissF_mono {xs : List Cls} {K n size nf nf' : Int} (h : amissF xs K n size nf = 0) (hle : nf' ≤ nf) : amissF xs K n size nf' = 0 := by
  obtain ⟨h1, h2, h3⟩ := amissF_zero h
  unfold amissF
  rw [if_pos ⟨h1, h2⟩]
  by_cases h0 : 0 < nf'
  · rw [if_neg]
    rintro ⟨_, hb⟩
    rw [h3 (by omega)] at hb
    cases hb
  · rw [if_neg (fun h => h0 h.1)]
theorem least_more {xs : List Cls} {K : Int} {s : ByteArray} {size a b : Int} (h : e12 xs K s.size size a = 0) (hab : (freqL xs b).length ≤ (freqL xs a).length) (hs : s.size ≤ 1000000000) : e12 xs K s.size size b = 0 ∧ y12 xs K s size b = y12 xs K s size a ∧ n12 xs K s size b ≤ n12 xs K s size a := by
  have hb : e12 xs K s.size size b = 0 := amissF_mono h (by omega)
  refine ⟨hb, ?_, ?_⟩
  · unfold y12; rw [if_pos h, if_pos hb]
  · unfold n12; rw [if_pos h, if_pos hb]
    have := countS_bound xs.length s.size size (by omega) (by omega)
    exact Int.mul_le_mul_of_nonneg_right (by omega) this.1
theorem least_none {xs : List Cls} {K : Int} {s : ByteArray} {size : Int} (h : e12 xs K s.size size ((xs.length : Int) + 1) = 0) : n12 xs K s size ((xs.length : Int) + 1) = 0 := by
  unfold n12; rw [if_pos h, freq_none]; simp
set_option maxHeartbeats 16000000 in
set_option maxRecDepth 100000 in
theorem SplitLeast_walk (A : Option Addr) (l c : Nat) (xs : List Cls) (K : Int) (s : ByteArray) (size least : Int) (w : World) (H : LfRow w A l c xs) (hl : xs.length = l) (hf : l * 32 ≤ 140737488351232) (hK : -9223372036854775808 ≤ K ∧ K ≤ 9223372036854775807) (hs : s.size ≤ 140737488351232) (hz : (-9223372036854775808 ≤ size ∧ size ≤ 9223372036854775807) ∧ -9223372036854775808 ≤ least ∧ least ≤ 9223372036854775807) :
    Calls Try.prog 7 #[.agg #[.slice A l c, .int .i64 K], .string s, .agg #[.int .i64 size, .int .i64 least]] w fun e w' => e = .returned (.bool true) ∧ Chg Nothing w w' := by
  have hFw := hid (fun w => few12_any A l c K s w (by omega) (by omega))
  have hw0 := hid (((Chg.refl Nothing w).alloc (.cells #[.slice A l c, .int .i64 K] 24)).alloc (.cells #[.int .i64 size, .int .i64 least] 40))
  have hL := (Blk.new w #[.slice A l c, .int .i64 K] 24).alloc (.cells #[.int .i64 size, .int .i64 least] 40)
  have hU := Blk.new (w.alloc (.cells #[.slice A l c, .int .i64 K] 24)) #[.int .i64 size, .int .i64 least] 40
  rw [World.size_alloc] at hU
  have hHH := hid (fun (w' : World) (hc : Chg Nothing w w') => H.calm hc)
  have hlh := hid hl
  have hle := H.le
  have hmx := H.max
  have x0 := hL.cell 0 (v := .slice A l c) rfl
  have x1 := hL.cell 1 (v := .int .i64 K) rfl
  have hlx := hL.lt
  have u0 := hU.cell 0 (v := .int .i64 size) rfl
  have u1 := hU.cell 1 (v := .int .i64 least) rfl
  have hlu := hU.lt
  clear H hl hL hU
  by_cases hfew : (decide (l ≤ 100) && decide (s.size ≤ 300)) = true
  · rw [hfew] at hFw
    simp only [Bool.and_eq_true, decide_eq_true_eq] at hfew
    obtain ⟨hl1, hs1⟩ := hfew
    by_cases hbig : 1000 < least
    · go_enter Try.func7, Try.ntmps7
      go_wp2_with fail
      refine (hFw.out _).mono ?_
      rintro e w5 ⟨rfl, hc5⟩
      have v0 := (hc5.cells.1 _ _ hlu).trans u0
      have v1 := (hc5.cells.1 _ _ hlu).trans u1
      have hC5 := hid (hw0.out.trans hc5)
      clear hc5 x0 x1 hlx u0 u1
      go_wp2_with fail
      refine (alive12 _).mono ?_
      rintro e w6 ⟨rfl, hc6⟩
      have hC6 := hid (hC5.out.trans hc6)
      go_wp2
      go_ret
      exact ⟨rfl, hC6.out⟩
    have hb2 : decide (1000 < least) = false := decide_eq_false hbig
    have hwp : IntKind.i64.wrap (least + 1) = least + 1 := by rw [IntKind.wrap_i64]; omega
    have hwl : IntKind.i64.wrap ((l : Int) + 1) = (l : Int) + 1 := by rw [IntKind.wrap_i64]; omega
    have hP1 := hid (fun (w' : World) (hc : Chg Nothing w w') => splitCounts_any _ A l c xs K s size least w' (hHH.out w' hc) hlh.out (by omega) (by omega))
    have hP2 := hid (fun (w' : World) (hc : Chg Nothing w w') => splitCounts_any _ A l c xs K s size (least + 1) w' (hHH.out w' hc) hlh.out (by omega) (by omega))
    have hP3 := hid (fun (w' : World) (hc : Chg Nothing w w') => splitCounts_any _ A l c xs K s size ((l : Int) + 1) w' (hHH.out w' hc) hlh.out (by omega) (by omega))
    have hM2 := hid (fun (h : e12 xs K s.size size least = 0) => least_more h (freq_less xs least (least + 1) (by omega)) (by omega))
    have hM3 := hid (fun (h : e12 xs K s.size size least = 0) => least_more (b := (l : Int) + 1) h (by rw [← hlh.out, freq_none]; exact Nat.zero_le _) (by omega))
    have hN3 := hid (fun (h : e12 xs K s.size size ((l : Int) + 1) = 0) => (show n12 xs K s size ((l : Int) + 1) = 0 from by rw [← hlh.out] at h ⊢; exact least_none h))
    have hB1 := hid (fun (h : ¬ e12 xs K s.size size least = 0) => e12_not h)
    generalize y12 xs K s size least = ys at *
    generalize y12 xs K s size (least + 1) = ys2 at *
    generalize y12 xs K s size ((l : Int) + 1) = ys3 at *
    generalize n12 xs K s size least = num at *
    generalize n12 xs K s size (least + 1) = num2 at *
    generalize n12 xs K s size ((l : Int) + 1) = num3 at *
    generalize e12 xs K s.size size least = E at *
    generalize e12 xs K s.size size (least + 1) = E2 at *
    generalize e12 xs K s.size size ((l : Int) + 1) = E3 at *
    go_enter Try.func7, Try.ntmps7
    go_wp2_with fail
    refine (hFw.out _).mono ?_
    rintro e w5 ⟨rfl, hc5⟩
    have hC5 := hid (hw0.out.trans hc5)
    have y0 := (hc5.cells.1 _ _ hlx).trans x0
    have y1 := (hc5.cells.1 _ _ hlx).trans x1
    have hly := Nat.lt_of_lt_of_le hlx hc5.size
    have v0 := (hc5.cells.1 _ _ hlu).trans u0
    have v1 := (hc5.cells.1 _ _ hlu).trans u1
    have hlv := Nat.lt_of_lt_of_le hlu hc5.size
    clear x0 x1 hlx u0 u1 hlu
    clear hc5
    go_wp2_with fail
    refine (hP1.out _ hC5.out).mono ?_
    rintro e w6 ⟨⟨A6, c6, rfl, hO6⟩, hc6⟩
    replace hO6 := hid (hO6.els.mono (G := fun _ => True) (fun _ _ _ => trivial))
    have hC6 := hid (hC5.out.trans hc6)
    have x0 := (hc6.cells.1 _ _ hly).trans y0
    have x1 := (hc6.cells.1 _ _ hly).trans y1
    have hlx := Nat.lt_of_lt_of_le hly hc6.size
    have u0 := (hc6.cells.1 _ _ hlv).trans v0
    have u1 := (hc6.cells.1 _ _ hlv).trans v1
    have hlu := Nat.lt_of_lt_of_le hlv hc6.size
    clear y0 y1 hly v0 v1 hlv
    clear hc6
    go_wp2_with fail
    refine (hP2.out _ hC6.out).mono ?_
    rintro e w7 ⟨⟨A7, c7, rfl, hO7⟩, hc7⟩
    replace hO7 := hid (hO7.els.mono (G := fun _ => True) (fun _ _ _ => trivial))
    have hO67 := hid (hO6.out.chg hc7 (fun _ _ _ h => h))
    have hC7 := hid (hC6.out.trans hc7)
    have y0 := (hc7.cells.1 _ _ hlx).trans x0
    have y1 := (hc7.cells.1 _ _ hlx).trans x1
    have hly := Nat.lt_of_lt_of_le hlx hc7.size
    have v0 := (hc7.cells.1 _ _ hlu).trans u0
    have v1 := (hc7.cells.1 _ _ hlu).trans u1
    have hlv := Nat.lt_of_lt_of_le hlu hc7.size
    clear x0 x1 hlx u0 u1 hlu
    clear hc7 hO6
    go_wp2_with fail
    refine (hP3.out _ hC7.out).mono ?_
    rintro e w8 ⟨⟨A8, c8, rfl, hO8⟩, hc8⟩
    replace hO8 := hid (hO8.els.mono (G := fun _ => True) (fun _ _ _ => trivial))
    have hO68 := hid (hO67.out.chg hc8 (fun _ _ _ h => h))
    have hO78 := hid (hO7.out.chg hc8 (fun _ _ _ h => h))
    have hC8 := hid (hC7.out.trans hc8)
    clear hc8 hO67 hO7 y0 y1 v0 v1 hly hlv
    by_cases hE : E = 0
    · subst hE
      obtain ⟨rfl, rfl, hn2⟩ := hM2.out rfl
      obtain ⟨rfl, rfl, hn3⟩ := hM3.out rfl
      obtain rfl := hN3.out rfl
      clear hM2 hM3 hN3 hB1 hP1 hP2 hP3
      go_wp2_with fail
      refine (alive12 _).mono ?_
      rintro e w9 ⟨rfl, hc9⟩
      have hO69 := hid (hO68.out.chg hc9 (fun _ _ _ h => h))
      have hO79 := hid (hO78.out.chg hc9 (fun _ _ _ h => h))
      have hO89 := hid (hO8.out.chg hc9 (fun _ _ _ h => h))
      have hC9 := hid (hC8.out.trans hc9)
      clear hc9 hO68 hO78 hO8
      go_wp2_with fail
      refine (same_intsM hO69.out hO79.out).mono ?_
      rintro e w10 ⟨rfl, hc10⟩
      have hO610 := hid (hO69.out.chg hc10 (fun _ _ _ h => h))
      have hO810 := hid (hO89.out.chg hc10 (fun _ _ _ h => h))
      have hC10 := hid (hC9.out.trans hc10)
      clear hc10 hO69 hO79 hO89
      go_wp2_with fail
      refine (same_intsM hO610.out hO810.out).mono ?_
      rintro e w11 ⟨rfl, hc11⟩
      have hC11 := hid (hC10.out.trans hc11)
      clear hc11
      go_wp2
      go_ret
      exact ⟨by first | rfl | simp [hn2], hC11.out⟩
    · obtain ⟨rfl, rfl⟩ := hB1.out hE
      have hEb : (E == 0) = false := beq_eq_false_iff_ne.2 hE
      clear hM2 hM3 hN3 hB1 hP1 hP2 hP3
      go_wp2_with fail
      refine (alive12 _).mono ?_
      rintro e w9 ⟨rfl, hc9⟩
      have hC9 := hid (hC8.out.trans hc9)
      go_wp2
      go_ret
      exact ⟨rfl, hC9.out⟩
  · have hfb : (decide (l ≤ 100) && decide (s.size ≤ 300)) = false := by simpa using hfew
    rw [hfb] at hFw
    clear hfew
    go_enter Try.func7, Try.ntmps7
    go_wp2_with fail
    refine (hFw.out _).mono ?_
    rintro e w5 ⟨rfl, hc5⟩
    have hC5 := hid (hw0.out.trans hc5)
    clear hc5 x0 x1 hlx
    go_wp2_with fail
    refine (alive12 _).mono ?_
    rintro e w6 ⟨rfl, hc6⟩
    have hC6 := hid (hC5.out.trans hc6)
    go_wp2
    go_ret
    exact ⟨rfl, hC6.out⟩
end Go.Proofs.Ytlpgbnbklddfaaa
