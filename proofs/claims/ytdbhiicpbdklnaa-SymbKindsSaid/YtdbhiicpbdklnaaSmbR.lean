/- Layer 11: the law SymbKinds. -/
import Derived.Test.YtdbhiicpbdklnaaSmbP
import Derived.Deep.RegionHeld3
namespace Go.Proofs.Ytdbhiicpbdklnaa
open Go.RowKit
set_option linter.unusedVariables false
/-- One kind's transforms at any size: they succeed, or the size is told. -/
theorem corrAny (xs : List Cls) (c : Cls) (s : ByteArray) (size : Int) (gP gM : Nat) (w : World) (m : Nat) (hm : xs.length = m) (h1 : 1 ≤ m) (h64 : m ≤ 64) (hs : s.size ≤ 100000000) (hmn : m ≤ s.size)
    (hP : FBlk w gP m (placeF xs c) 25) (hM : FBlk w gM s.size (markF c s) 25) :
    Calls Try.prog 24 #[.slice (some ⟨gP, 0, none⟩) m m, .slice (some ⟨gM, 0, none⟩) s.size s.size, .int .i64 size] w fun e w' => Chg Nothing w w' ∧ (sizedB m size = true ∧ (∃ A' c', e = .returned (.tuple #[.slice A' (s.size + 1 - m) c', .int .i64 (countS m s.size size), .int .i64 0]) ∧ URow w' w.heap.size A' (s.size + 1 - m) c' (slideN m (placeF xs c) (markF c s))) ∨ sizedB m size = false ∧ e = .returned (.tuple #[.slice none 0 0, .int .i64 0, .int .i64 50])) := by
  by_cases hz : sizedB m size = true
  · have hbad : sizeBad m s.size size = false := by
      unfold sizedB at hz
      simp only [Bool.and_eq_true, decide_eq_true_eq] at hz
      unfold sizeBad
      rw [hz.1, decide_eq_false (show ¬ size < (m : Int) by omega)]
      simp
    exact (corrKind xs c s size gP gM w m hm h1 h64 hs hbad hP hM).mono (fun e w' ⟨A', c', he, hr, hc⟩ => ⟨hc, .inl ⟨hz, A', c', he, hr⟩⟩)
  · have hz2 : sizedB m size = false := by simpa using hz
    have hsl : slidesB m s.size = true := by unfold slidesB; simp; omega
    exact (correlate_size (some ⟨gP, 0, none⟩) (some ⟨gM, 0, none⟩) m m s.size s.size size w hsl hz2).mono (fun e w' ⟨he, hc⟩ => ⟨hc, .inr ⟨hz2, he⟩⟩)
def SkA (w2 : World) (gO N NK : Nat) (xs : List Cls) (s : ByteArray) (iv : Value) (wr : World) : Prop := ∃ k : Nat, k ≤ NK ∧ iv = .int .i64 k ∧ IBlk wr gO N (fun i => kSum xs s k i) ∧ Chg (One gO) w2 wr
def SkB (wb : World) (gO N : Nat) (f v : Nat → Int) (iv : Value) (wr : World) : Prop := ∃ i : Nat, i ≤ N ∧ iv = .int .i64 i ∧ IBlk wr gO N (fun q => if q < i then f q + v q else f q) ∧ Chg (One gO) wb wr
theorem skb_step {f v : Nat → Int} {i N : Nat} (q : Nat) (hq : q < N) : (if q = i then f i + v i else (if q < i then f q + v q else f q)) = if q < i + 1 then f q + v q else f q := by
  by_cases h : q = i
  · have h3 : q < i + 1 := by omega
    rw [if_pos h, if_pos h3, h]
  · rw [if_neg h]
    by_cases h2 : q < i
    · have h3 : q < i + 1 := by omega
      rw [if_pos h2, if_pos h3]
    · have h3 : ¬ q < i + 1 := by omega
      rw [if_neg h2, if_neg h3]
def SkC (w : World) (N : Nat) (iv : Value) (wr : World) : Prop := ∃ i : Nat, i ≤ N ∧ iv = .int .i64 i ∧ Chg Nothing w wr
set_option maxHeartbeats 16000000 in
set_option maxRecDepth 100000 in
theorem SymbKinds_walk (A : Option Addr) (l c : Nat) (xs : List Cls) (K : Int) (s : ByteArray) (size : Int) (w : World) (H : LeafRow w A l c xs) (hl : xs.length = l) (hf : l * 32 ≤ 140737488351232) (hK : -9223372036854775808 ≤ K ∧ K ≤ 9223372036854775807) (hs : s.size ≤ 140737488351232) (hz1 : -9223372036854775808 ≤ size) (hz2 : size ≤ 9223372036854775807) :
    Calls Try.prog 6 #[.agg #[.slice A l c, .int .i64 K], .string s, .int .i64 size] w fun e w' => e = .returned (.bool true) ∧ Chg Nothing w w' := by
  have hFw := hid (fun w => few11_any A l c K s w (by omega) (by omega))
  have hw0 := hid ((Chg.refl Nothing w).alloc (.cells #[.slice A l c, .int .i64 K] 24))
  have hL := Blk.new w #[.slice A l c, .int .i64 K] 24
  have hHH := hid (fun (w' : World) (hc : Chg Nothing w w') => H.calm hc)
  have hlh := hid hl
  have hle := H.le
  have hmx := H.max
  have x0 := hL.cell 0 (v := .slice A l c) rfl
  have x1 := hL.cell 1 (v := .int .i64 K) rfl
  have hlx := hL.lt
  have hLh := hid hL
  have hRg := hid (fun (w' : World) (hc : Chg Nothing w w') => refRight7_any _ A l c xs K w' (hHH.out w' hc) hlh.out)
  obtain ⟨r, hr⟩ : ∃ r, r = rightB xs K := ⟨_, rfl⟩
  rw [← hr] at hRg
  replace hr := hid hr
  clear H hl hL
  by_cases hfew : (decide (l ≤ 100) && decide (s.size ≤ 300)) = true
  · rw [hfew] at hFw
    simp only [Bool.and_eq_true, decide_eq_true_eq] at hfew
    obtain ⟨hl1, hs1⟩ := hfew
    by_cases hout : r = false ∨ s.size < l
    · go_enter Try.func6, Try.ntmps6
      go_wp2_with fail
      refine (hFw.out _).mono ?_
      rintro e w5 ⟨rfl, hc5⟩
      have y0 := (hc5.cells.1 _ _ hlx).trans x0
      have y1 := (hc5.cells.1 _ _ hlx).trans x1
      have hly := Nat.lt_of_lt_of_le hlx hc5.size
      have hC5 := hid (hw0.out.trans hc5)
      clear hc5 x0 x1 hlx
      go_wp2_with fail
      refine (hRg.out _ hC5.out).mono ?_
      rintro e w6 ⟨rfl, hc6⟩
      have x0 := (hc6.cells.1 _ _ hly).trans y0
      have hlx := Nat.lt_of_lt_of_le hly hc6.size
      have hC6 := hid (hC5.out.trans hc6)
      clear hc6 y0 y1 hly
      cases r with
      | false =>
        go_wp2_with fail
        refine (alive11 _).mono ?_
        rintro e w7 ⟨rfl, hc7⟩
        have hC7 := hid (hC6.out.trans hc7)
        go_wp2
        go_ret
        exact ⟨rfl, hC7.out⟩
      | true =>
        have hln : s.size < l := by simpa using hout
        have hlI : (s.size : Int) < (l : Int) := by omega
        clear hout
        go_wp2_with fail
        refine (alive11 _).mono ?_
        rintro e w7 ⟨rfl, hc7⟩
        have hC7 := hid (hC6.out.trans hc7)
        go_wp2
        go_ret
        exact ⟨rfl, hC7.out⟩
    · have hrt : r = true := by cases r; exact absurd (.inl rfl) hout; rfl
      have hls : l ≤ s.size := by apply Classical.byContradiction; intro h; exact hout (.inr (by omega))
      subst hrt
      have h1 := hid (by have := (right_len hr.out.symm).1; rw [hlh.out] at this; exact this : 1 ≤ l)
      have h64 := hid (by have := (right_len hr.out.symm).2; rw [hlh.out] at this; exact this : l ≤ 64)
      have hlI : (l : Int) ≤ (s.size : Int) := by omega
      obtain ⟨N, hN⟩ : ∃ N, N = s.size + 1 - l := ⟨_, rfl⟩
      have hN9 : N ≤ 301 := by omega
      have hNI : (s.size : Int) - (l : Int) + 1 = (N : Int) := by omega
      have hmkI := fun w => make_int N (by omega) w
      replace hN := hid hN
      clear hout
      go_enter Try.func6, Try.ntmps6
      go_wp2_with fail
      refine (hFw.out _).mono ?_
      rintro e w5 ⟨rfl, hc5⟩
      have y0 := (hc5.cells.1 _ _ hlx).trans x0
      have y1 := (hc5.cells.1 _ _ hlx).trans x1
      have hly := Nat.lt_of_lt_of_le hlx hc5.size
      have hC5 := hid (hw0.out.trans hc5)
      have hL5 := hid (hLh.out.chg hc5 id)
      clear hc5 x0 x1 hlx hLh
      go_wp2_with fail
      refine (hRg.out _ hC5.out).mono ?_
      rintro e w6 ⟨rfl, hc6⟩
      have x0 := (hc6.cells.1 _ _ hly).trans y0
      have x1 := (hc6.cells.1 _ _ hly).trans y1
      have hlx := Nat.lt_of_lt_of_le hly hc6.size
      have hC6 := hid (hC5.out.trans hc6)
      have hL6 := hid (hL5.out.chg hc6 id)
      clear hc6 y0 y1 hly hL5
      go_wp2_with fail
      have hcm := (Chg.refl Nothing w6).alloc (.cells (madeCells #[.int .i64 0] N) 3)
      have hO7 := hid (IBlk.made w6 N)
      have hL7 := hid (hL6.out.chg hcm id)
      have hC7 := hid (hC6.out.trans hcm)
      have hlo := hid (show w.heap.size < w6.heap.size from hlx)
      have hgz := hid (show w6.heap.size < (w6.alloc (.cells (madeCells #[.int .i64 0] N) 3)).heap.size from by rw [World.size_alloc]; omega)
      obtain ⟨gO, hgO⟩ : ∃ gO, gO = w6.heap.size := ⟨_, rfl⟩
      rw [← hgO] at hO7 hlo hgz
      replace hgO := hid hgO
      generalize w6.alloc (.cells (madeCells #[.int .i64 0] N) 3) = w7 at hO7 hL7 hC7 hgz ⊢
      clear hcm x0 x1 hlx hL6
      refine (leafKinds_any _ A l c xs K w7 (hHH.out _ hC7.out) hlh.out (by omega)).mono ?_
      rintro e w8 ⟨A8, c8, rfl, hO8, hc8⟩
      have hI8 := hid (hO7.out.chg hc8 id)
      have hL8 := hid (hL7.out.chg hc8 id)
      have hC8 := hid (hC7.out.trans hc8)
      have hkl := kindsL_len xs
      rw [hlh.out] at hkl
      obtain ⟨NK, hNK⟩ : ∃ NK, NK = (kindsL xs).length := ⟨_, rfl⟩
      rw [← hNK] at hO8 hkl ⊢
      replace hNK := hid hNK
      have hO8h := hid hO8
      have hgz8 := hid (show gO < w8.heap.size from by have := hgz.out; have := hc8.size; omega)
      have hO8o := hid (fun j hj => (own_of hO8 j hj).1)
      clear hO8 hc8 hO7 hL7
      have hCw := hid (fun (wr : World) (hc : Chg (One gO) w8 wr) => Chg.then hC8.out hc (fun i hi e => absurd (show i = gO from e) (by have := hlo.out; omega)))
      go_wp2_with fail
      try rw [← hgO.out]
      go_loopw [45] (fun iv wr => SkA w8 gO N NK xs s iv wr) (fun iv _ => NK - (intOf iv).toNat)
      case atStart => exact ⟨0, Nat.zero_le _, rfl, hI8.out, Chg.refl _ _⟩
      case round =>
        obtain ⟨k, hk, rfl, hIr, hchg⟩ := hrel
        rcases Nat.lt_or_ge k NK with hkn | hkn
        · have hk0 : (0 : Int) ≤ (k : Int) := by omega
          have hkI : (k : Int) < (NK : Int) := by omega
          have hOr := hid (own_chg hO8h.out hchg (fun j hj e => by have := hO8o.out j hj; have := hgz.out; have h2 : j = gO := e; omega))
          obtain ⟨g, o, rfl, -, hgl, d0, d1, d2, d3⟩ := ClsRow.four (RowAt.of_own hOr.out) hNK.out.symm hkn
          have hdm := Nat.le_trans (RowAt.of_own hOr.out).le (RowAt.of_own hOr.out).max
          obtain ⟨y, hyd⟩ : ∃ y, y = (kindsL xs).getD k 0 := ⟨_, rfl⟩
          rw [← hyd] at d0 d1 d2 d3
          replace hyd := hid hyd
          have hZ := hid (Blk.new wr #[.int .u64 0, .int .u64 0, .int .u64 0, .int .u64 0] 27)
          have hLr := hid (hL8.out.chg hchg (fun e => absurd (show w.heap.size = gO from e) (by have := hlo.out; omega)))
          have hCr := hid hchg
          have hIrh := hid hIr
          clear hchg hIr
          go_wp2_with (with_reducible refine halt_op (.store 27 (.tmp 9) (.tmp 48)) ?_)
          unfold Halted
          refine store_blk rfl 27 (.tmp 9) (.tmp 48) (by rfl) _ (by rfl) _ (by rfl) hZ.out (by rfl) (by exact sizeCls) (by rfl) ?_
          intro w3 hB3 hc3
          have hcz := hid (((Chg.refl Nothing wr).alloc (.cells #[.int .u64 0, .int .u64 0, .int .u64 0, .int .u64 0] 27)).then hc3 (fun i hi h => absurd (show i = wr.heap.size from h) (by omega)))
          have hL3 := hid (hLr.out.chg hcz.out id)
          have hI3 := hid (hIrh.out.chg hcz.out id)
          have hC3 := hid (hCr.out.trans (Chg.up (S := One gO) hcz.out))
          obtain ⟨r0, r1, r2, r3, -, -, -, -, hlt1⟩ := CBox.at_ (show CBox w3 wr.heap.size y from hB3)
          have x0 := hL3.out.cell 0 (v := .slice A l c) rfl
          have x1 := hL3.out.cell 1 (v := .int .i64 K) rfl
          have hSe := hid (fun (m : Calm w3) => (⟨Calm.cell hL3.out.lt x0 m, Calm.cell hL3.out.lt x1 m, Calm.cell hlt1 r0 m, Calm.cell hlt1 r1 m, Calm.cell hlt1 r2 m, Calm.cell hlt1 r3 m⟩ : m.val.cell? ⟨w.heap.size, 0, none⟩ = some (.slice A l c) ∧ m.val.cell? ⟨w.heap.size, 1, none⟩ = some (.int .i64 K) ∧ m.val.cell? ⟨wr.heap.size, 0, none⟩ = some (.int .u64 (wd y 0)) ∧ m.val.cell? ⟨wr.heap.size, 1, none⟩ = some (.int .u64 (wd y 1)) ∧ m.val.cell? ⟨wr.heap.size, 2, none⟩ = some (.int .u64 (wd y 2)) ∧ m.val.cell? ⟨wr.heap.size, 3, none⟩ = some (.int .u64 (wd y 3))))
          have hPl := hid (fun (w' : World) (hc : Chg Nothing w3 w') => places_any _ A l c xs K y w' (hHH.out _ (Chg.trans (hCw.out _ hC3.out) hc)) hlh.out (by omega))
          have hMk := hid (fun (w' : World) => marks_any y s w' (by omega))
          have hCo := hid (fun (w' : World) (gP gM : Nat) (hP : FBlk w' gP l (placeF xs y) 25) (hM : FBlk w' gM s.size (markF y s) 25) => (show Calls Try.prog _ _ w' fun e w'' => ∃ (A' : Option Addr) (n' c' : Nat) (num E : Int), e = .returned (.tuple #[.slice A' n' c', .int .i64 num, .int .i64 E]) ∧ Chg Nothing w' w'' ∧ (E = 50 ∨ E = 0 ∧ n' = N ∧ URow w'' w'.heap.size A' n' c' (slideN l (placeF xs y) (markF y s))) from (corrAny xs y s size gP gM w' l hlh.out h1.out h64.out (by omega) hls hP hM).mono (fun e w'' h => by
            obtain ⟨hc, ⟨-, A', c', he, hu⟩ | ⟨-, he⟩⟩ := h
            · rw [← hN.out] at he hu
              exact ⟨A', N, c', _, 0, he, hc, .inr ⟨rfl, rfl, hu⟩⟩
            · exact ⟨none, 0, 0, _, 50, he, hc, .inl rfl⟩)))
          have hd0 := hid ((Chg.refl Nothing w3).drew)
          clear hB3 hc3 hZ d0 d1 d2 d3 x0 x1 r0 r1 r2 r3 hLr hCr hOr hIrh
          go_wp2_with fail
          go_region_held3 (fun w' => w'.cell? ⟨w.heap.size, 0, none⟩ = some (.slice A l c) ∧ w'.cell? ⟨w.heap.size, 1, none⟩ = some (.int .i64 K) ∧ w'.cell? ⟨wr.heap.size, 0, none⟩ = some (.int .u64 (wd y 0)) ∧ w'.cell? ⟨wr.heap.size, 1, none⟩ = some (.int .u64 (wd y 1)) ∧ w'.cell? ⟨wr.heap.size, 2, none⟩ = some (.int .u64 (wd y 2)) ∧ w'.cell? ⟨wr.heap.size, 3, none⟩ = some (.int .u64 (wd y 3)))
            (first | exact hSe.out ⟨_, hd0.out⟩ | exact hSe.out ⟨_, hcP.out⟩ | exact hSe.out ⟨_, hcM.out⟩ | exact hSe.out ⟨_, hcQ.out⟩)
            (first
            | (go_at_call 14; with_reducible refine (hPl.out _ (by first | exact hcM.out | exact hd0.out)).mono ?_; rintro e wP ⟨gP, hgP, rfl, hBP, hcP0⟩; have hcP := hid (Chg.trans (by first | exact hcM.out | exact hd0.out) hcP0); replace hBP := hid hBP; replace hcP0 := hid hcP0)
            | (go_at_call 12; with_reducible refine (hMk.out _).mono ?_; rintro e wM ⟨gM, hgM, rfl, hBM, hcM0⟩; have hcM := hid (Chg.trans (by first | exact hcP.out | exact hd0.out) hcM0); replace hBM := hid hBM; replace hcM0 := hid hcM0)
            | (go_at_call 24; with_reducible refine (hCo.out _ _ _ (by first | exact hBP.out | exact hBP.out.chg hcM0.out id) (by first | exact hBM.out | exact hBM.out.chg hcP0.out id)).mono ?_; rintro e wQ ⟨A', n', c', num, E, rfl, hcQ0, hwh⟩; have hcQ := hid (Chg.trans (by first | exact hcP.out | exact hcM.out) hcQ0); replace hwh := hid hwh; replace hcQ0 := hid hcQ0))
          all_goals
            have hCq := hid (hC3.out.trans (Chg.up (S := One gO) hcQ.out))
            have hIq := hid (hI3.out.chg hcQ.out id)
            rcases hwh.out with rfl | ⟨rfl, rfl, hU⟩
            · go_wp2_with fail
              refine (alive11 _).mono ?_
              rintro e wN ⟨rfl, hcN⟩
              have hCN := hid ((hCw.out _ hCq.out).trans hcN)
              go_wp2
              go_ret
              exact ⟨rfl, hCN.out⟩
            · have hUq := hid (show URow wQ (gO + 1) A' n' c' (kHit xs s k) from by
                unfold kHit
                rw [← hyd.out, hlh.out]
                refine own_low hU ?_
                first
                | exact Nat.lt_of_lt_of_le hgz8.out (Nat.le_trans hC3.out.size hcM.out.size)
                | exact Nat.lt_of_lt_of_le hgz8.out (Nat.le_trans hC3.out.size hcP.out.size))
              have hle9 := URow.nc hU
              have hkv := hid (fun i => kHit_bound xs s k i (by rw [hlh.out]; exact h64.out))
              have hks := hid (fun i => kSum_bound xs s i (by rw [hlh.out]; exact h64.out) k)
              obtain ⟨f, hf⟩ : ∃ f : Nat → Int, f = fun i => kSum xs s k i := ⟨_, rfl⟩
              rw [← hf] at hIq
              have hfb := hid (fun i => show 0 ≤ f i ∧ f i ≤ 64 * 64 from by
                rw [hf]
                have h1 := hks.out i
                have h2 := h64.out
                show 0 ≤ kSum xs s k i ∧ kSum xs s k i ≤ 64 * 64
                omega)
              have hfn := hid (fun q => show f q + kHit xs s k q = kSum xs s (k + 1) q from by rw [hf, kSum_succ])
              obtain ⟨v, hv⟩ : ∃ v, v = kHit xs s k := ⟨_, rfl⟩
              rw [← hv] at hUq hfn hkv
              replace hf := hid hf
              replace hv := hid hv
              clear hU hks hwh
              go_wp2_with fail
              rename_i wr0
              go_loopw [75] (fun iv wr => SkB wQ gO n' f v iv wr) (fun iv _ => n' - (intOf iv).toNat)
              case atStart => exact ⟨0, Nat.zero_le _, rfl, hIq.out.congr (fun q _ => by rw [if_neg (by omega)]), Chg.refl _ _⟩
              case round =>
                obtain ⟨i, hi, rfl, hOi, hcr⟩ := hrel
                rcases Nat.lt_or_ge i n' with hin | hin
                · have hi0 : (0 : Int) ≤ (i : Int) := by omega
                  have hiI : (i : Int) < (n' : Int) := by omega
                  have hUr := own_chg hUq.out hcr (fun j hj e => by
                    have h1 := (own_of hUq.out j hj).1
                    have h2 : j = gO := e
                    omega)
                  obtain ⟨gx, ox, rfl, hgx, xx⟩ := URow.at_ hUr hin
                  have o0 := hOi.cell hin
                  have o1 := hOi.free i
                  have ol := hOi.lt
                  rw [if_neg (by omega)] at o0
                  have hvi := hkv.out i
                  have hfi := hfb.out i
                  have hst4 := hid (((show IBlk wr.drew gO n' _ from hOi).set i (f i + v i)).congr (f' := fun q => if q < i + 1 then f q + v q else f q) (fun q hq => skb_step q hq))
                  have hC4 := hid ((hcr.drew).setOne i (.int .i64 (f i + v i)))
                  obtain ⟨fi, hfd⟩ : ∃ fi, fi = f i := ⟨_, rfl⟩
                  obtain ⟨vi, hvd⟩ : ∃ vi, vi = v i := ⟨_, rfl⟩
                  rw [← hfd] at o0 hfi hst4 hC4
                  rw [← hvd] at xx hvi hst4 hC4
                  have hw1 : IntKind.i64.wrap (fi + vi) = fi + vi := by rw [IntKind.wrap_i64]; omega
                  have hw2 : IntKind.i64.wrap vi = vi := by rw [IntKind.wrap_i64]; omega
                  clear hUr hOi hcr hfd hvd
                  go_wp2
                  go_region
                  all_goals
                    go_wp2
                    go_roundw
                    case rel => exact ⟨i + 1, hin, by go_num, hst4.out, hC4.out⟩
                    case measure => simp [intOf]; omega
                · obtain rfl : n' = i := by omega
                  have hd : decide ((n' : Int) < (n' : Int)) = false := decide_eq_false (by omega)
                  have hI9 := hid (hOi.congr (f' := fun i => kSum xs s (k + 1) i) (fun q hq => by rw [if_pos hq]; exact hfn.out q))
                  have hC9 := hid (hCq.out.trans hcr)
                  clear hOi hcr
                  go_wp2
                  go_roundw
                  case rel => exact ⟨k + 1, hkn, by go_num, hI9.out, hC9.out⟩
                  case measure => simp [intOf]; omega
        · obtain rfl : NK = k := by omega
          have hd : decide ((NK : Int) < (NK : Int)) = false := decide_eq_false (by omega)
          have hI9 := hid (hIr.congr (f' := fun i => boundN xs - missN xs s i) (fun q hq => by
            have := kSum_all xs s q
            rw [← hNK.out] at this
            omega))
          have hL9 := hL8.out.chg hchg (fun e => absurd (show w.heap.size = gO from e) (by have := hlo.out; omega))
          have x0 := hL9.cell 0 (v := .slice A l c) rfl
          have x1 := hL9.cell 1 (v := .int .i64 K) rfl
          have hlx := hL9.lt
          have hC9 := hid (hCw.out _ hchg)
          have hcr9 := hid (show countsR xs K s = (List.range N).map (missN xs s) from by unfold countsR countsL; rw [← hr.out, if_pos rfl, hlh.out, ← hN.out])
          have hcl9 := hid (show (countsR xs K s).length = N from by rw [hcr9.out]; simp)
          have hL9h := hid hL9
          clear hIr hchg hL9
          go_wp2_with fail
          refine (refCounts8_any _ A l c xs K s wr (hHH.out _ hC9.out) hlh.out (by omega)).mono ?_
          rintro e wA ⟨⟨AA, cA, rfl, hOA⟩, hcA⟩
          rw [hcl9.out] at hOA ⊢
          have hEA := hid (hOA.els.mono (G := fun _ => True) (fun _ _ _ => trivial))
          have hIA := hid (hI9.out.chg hcA id)
          have hLA := hid (hL9h.out.chg hcA id)
          have hCA := hid (hC9.out.trans hcA)
          have hBd := hid (fun (w' : World) (hc : Chg Nothing w w') => leafBound_any _ A l c xs K w' (hHH.out w' hc) hlh.out (by omega))
          obtain ⟨B, hB⟩ : ∃ B, B = boundN xs := ⟨_, rfl⟩
          rw [← hB] at hIA hBd
          replace hB := hid hB
          have hBb := hid (boundN_bound xs)
          clear hcA hOA x0 x1 hlx
          go_wp2_with fail
          go_loopw [95] (fun iv wr => SkC wA N iv wr) (fun iv _ => N - (intOf iv).toNat)
          case atStart => exact ⟨0, Nat.zero_le _, rfl, Chg.refl _ _⟩
          case round =>
            obtain ⟨i, hi, rfl, hcr⟩ := hrel
            rcases Nat.lt_or_ge i N with hin | hin
            · have hi0 : (0 : Int) ≤ (i : Int) := by omega
              have hiI : (i : Int) < (N : Int) := by omega
              obtain ⟨gx, ox, rfl, -, hgx, xx⟩ := (hEA.out.chg hcr (fun _ _ _ h => h)).at_ hin
              have hxv := hid (show (countsR xs K s).getD i 0 = missN xs s i from by rw [hcr9.out]; simp [hin])
              rw [hxv.out] at xx
              have hIr := hIA.out.chg hcr id
              have hLr := hLA.out.chg hcr id
              have o0 := hIr.cell hin
              have z0 := hLr.cell 0 (v := .slice A l c) rfl
              have z1 := hLr.cell 1 (v := .int .i64 K) rfl
              have hmb := missTo_bound xs s i xs.length
              rw [missTo_all, hlh.out] at hmb
              have hBb2 : 0 ≤ B ∧ B ≤ l := by have := hBb.out; have := hlh.out; have := hB.out; omega
              have h64' := h64.out
              obtain ⟨mi, hmi⟩ : ∃ mi, mi = missN xs s i := ⟨_, rfl⟩
              rw [← hmi] at xx o0 hmb
              have hw1 : IntKind.i64.wrap (B - mi) = B - mi := by rw [IntKind.wrap_i64]; omega
              have hBd2 := hid (fun (nn : Calm wr) => hBd.out nn.val (hCA.out.trans (hcr.trans nn.chg)))
              have hCr := hid (hCA.out.trans hcr)
              have hcrh := hid hcr
              replace o0 := Calm.cell hIr.lt o0
              replace z0 := Calm.cell hLr.lt z0
              replace z1 := Calm.cell hLr.lt z1
              clear hcr hIr hLr hmi hmb hBb2 h64'
              go_wp2_with fail
              try simp only [List.append_eq, List.cons_append, List.nil_append]
              refine wp_region_calm_lit (by kernel_rfl) (by kernel_rfl) ?_
              repeat (go_big_quiet_step (((go_at_call 26; exact calm_of (hBd2.out _)))))
              refine wpQuiet_nil ?_
              intro _ hw'
              obtain ⟨nq, hw''⟩ := hw'
              subst hw''
              have hc9 := hid (hcrh.out.trans nq.chg)
              generalize nq.val = w9 at hc9 ⊢
              go_wp2
              go_roundw
              case rel => exact ⟨i + 1, hin, by go_num, hc9.out⟩
              case measure => simp [intOf]; omega
            · obtain rfl : N = i := by omega
              have hd : decide ((N : Int) < (N : Int)) = false := decide_eq_false (by omega)
              have hC10 := hid (hCA.out.trans hcr)
              clear hcr
              go_wp2_with fail
              refine (alive11 _).mono ?_
              rintro e wN ⟨rfl, hcN⟩
              have hCN := hid (hC10.out.trans hcN)
              go_wp2
              go_ret
              exact ⟨rfl, hCN.out⟩
  · have hfb : (decide (l ≤ 100) && decide (s.size ≤ 300)) = false := by simpa using hfew
    rw [hfb] at hFw
    clear hfew
    go_enter Try.func6, Try.ntmps6
    go_wp2_with fail
    refine (hFw.out _).mono ?_
    rintro e w5 ⟨rfl, hc5⟩
    have hC5 := hid (hw0.out.trans hc5)
    clear hc5 x0 x1 hlx
    go_wp2_with fail
    refine (alive11 _).mono ?_
    rintro e w6 ⟨rfl, hc6⟩
    have hC6 := hid (hC5.out.trans hc6)
    go_wp2
    go_ret
    exact ⟨rfl, hC6.out⟩
end Go.Proofs.Ytdbhiicpbdklnaa
