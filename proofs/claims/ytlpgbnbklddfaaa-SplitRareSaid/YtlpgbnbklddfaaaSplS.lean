/- Layer 12: the walk of SplitRare. -/
import Derived.Test.YtlpgbnbklddfaaaSplR
namespace Go.Proofs.Ytlpgbnbklddfaaa
open Go.RowKit
set_option linter.unusedVariables false
theorem rareR_is (xs : List Cls) (K : Int) (ks : List Cls) (s : ByteArray) : rareR xs K ks s = (List.range (sumsN xs K s.size)).map fun q => rareTo xs ks s s.size q xs.length := by
  unfold rareR sumsN
  by_cases h : rightB xs K = true
  · rw [if_pos h, if_pos h]
    refine List.map_congr_left fun q hq => ?_
    have h1 := (right_len h).1
    have h2 : q < s.size + 1 - xs.length := by simpa using hq
    exact (rareTo_all xs ks s q (by omega)).symm
  · rw [if_neg h, if_neg h]; rfl
theorem rareR_len (xs : List Cls) (K : Int) (ks : List Cls) (s : ByteArray) : (rareR xs K ks s).length = sumsN xs K s.size := by rw [rareR_is]; simp
theorem countsR_len (xs : List Cls) (K : Int) (s : ByteArray) : (countsR xs K s).length = sumsN xs K s.size := by
  unfold countsR sumsN; split
  · unfold countsL; simp
  · rfl
theorem rareR_get (xs : List Cls) (K : Int) (s : ByteArray) (i : Nat) (h : i < sumsN xs K s.size) : (rareR xs K (kindsL xs) s).getD i 0 = boundN xs - (countsR xs K s).getD i 0 := by
  unfold sumsN at h
  unfold rareR countsR
  by_cases hr : rightB xs K = true
  · rw [if_pos hr] at h
    rw [if_pos hr, if_pos hr]
    unfold countsL
    simp [h, rareN_all]
  · rw [if_neg hr] at h; omega
theorem countsR_bound (xs : List Cls) (K : Int) (s : ByteArray) (i : Nat) (h : i < sumsN xs K s.size) : 0 ≤ (countsR xs K s).getD i 0 ∧ (countsR xs K s).getD i 0 ≤ xs.length := by
  unfold sumsN at h
  unfold countsR
  by_cases hr : rightB xs K = true
  · rw [if_pos hr] at h
    rw [if_pos hr]
    have h2 : (countsL xs s).getD i 0 = missN xs s i := by unfold countsL; simp [h]
    rw [h2]
    exact missTo_bound xs s i xs.length
  · rw [if_neg hr] at h; omega
theorem splitRareM (F F2 : Nat → Prop) (A : Option Addr) (n c : Nat) (xs : List Cls) (K : Int) (s : ByteArray) (A2 : Option Addr) (n2 c2 : Nat) (ks : List Cls) (w : World)
    (H : ClsRow F w A n c xs) (hl : xs.length = n) (H2 : ClsRow F2 w A2 n2 c2 ks) (hl2 : ks.length = n2) (hn9 : n ≤ 1000000000) (hs : s.size ≤ 100000000) :
    Calls Try.prog 16 #[.agg #[.slice A n c, .int .i64 K], .string s, .slice A2 n2 c2] w fun e w' => ∃ g, e = .returned (.slice (some ⟨g, 0, none⟩) (sumsN xs K s.size) (sumsN xs K s.size)) ∧ IntsAt (fun _ => True) w' (some ⟨g, 0, none⟩) (sumsN xs K s.size) (sumsN xs K s.size) (rareR xs K ks s) ∧ Chg Nothing w w' :=
  (splitRare_any F F2 A n c xs K s A2 n2 c2 ks w H hl H2 hl2 hn9 hs).mono (fun e w' ⟨g, he, hg, hI, hc⟩ => ⟨g, he, by
    rw [rareR_is]
    exact (IBlk.own hI (Nat.zero_le g) (by unfold sumsN; split <;> omega)).els.mono (fun _ _ _ => trivial), hc⟩)
theorem refRareM (F F2 : Nat → Prop) (A : Option Addr) (n c : Nat) (xs : List Cls) (K : Int) (s : ByteArray) (A2 : Option Addr) (n2 c2 : Nat) (ks : List Cls) (w : World)
    (H : ClsRow F w A n c xs) (hl : xs.length = n) (H2 : ClsRow F2 w A2 n2 c2 ks) (hl2 : ks.length = n2) (hs : s.size ≤ 100000000) :
    Calls Try.prog 17 #[.agg #[.slice A n c, .int .i64 K], .string s, .slice A2 n2 c2] w fun e w' => ∃ A5 c5, e = .returned (.slice A5 (sumsN xs K s.size) c5) ∧ IntsAt (fun _ => True) w' A5 (sumsN xs K s.size) c5 (rareR xs K ks s) ∧ Chg Nothing w w' :=
  (refRare_any F F2 A n c xs K s A2 n2 c2 ks w H hl H2 hl2 hs).mono (fun e w' ⟨⟨A5, c5, he, h5⟩, hc⟩ => by
    rw [rareR_len] at he h5
    exact ⟨A5, c5, he, h5.els.mono (fun _ _ _ => trivial), hc⟩)
def RwInv12 (w : World) (N : Nat) (iv : Value) (wr : World) : Prop := ∃ k : Nat, k ≤ N ∧ iv = .int .i64 k ∧ Chg Nothing w wr
set_option maxHeartbeats 16000000 in
set_option maxRecDepth 100000 in
theorem SplitRare_walk (A : Option Addr) (l c : Nat) (xs : List Cls) (K : Int) (s : ByteArray) (A2 : Option Addr) (n2 c2 : Nat) (ks : List Cls) (w : World) (H : LfRow w A l c xs) (hl : xs.length = l) (hf : l * 32 ≤ 140737488351232) (hK : -9223372036854775808 ≤ K ∧ K ≤ 9223372036854775807) (hs : s.size ≤ 140737488351232) (H2 : ClsRow (fun _ => True) w A2 n2 c2 ks) (hl2 : ks.length = n2) :
    Calls Try.prog 4 #[.agg #[.slice A l c, .int .i64 K], .string s, .slice A2 n2 c2] w fun e w' => e = .returned (.bool true) ∧ Chg Nothing w w' := by
  have hFw := hid (fun w => few12_any A l c K s w (by omega) (by omega))
  have hw0 := hid ((Chg.refl Nothing w).alloc (.cells #[.slice A l c, .int .i64 K] 24))
  have hL := Blk.new w #[.slice A l c, .int .i64 K] 24
  have hHH := hid (fun (w' : World) (hc : Chg Nothing w w') => H.calm hc)
  have hH2 := hid (fun (w' : World) (hc : Chg Nothing w w') => H2.chg hc (fun _ _ _ h => h))
  have hlh := hid hl
  have hlh2 := hid hl2
  have hle := H.le
  have hmx := H.max
  have hle2 := H2.le
  have hmx2 := H2.max
  have hLh := hid hL
  have x0 := hL.cell 0 (v := .slice A l c) rfl
  have x1 := hL.cell 1 (v := .int .i64 K) rfl
  clear H hl hL H2 hl2
  by_cases hfew : (decide (l ≤ 100) && decide (s.size ≤ 300)) = true
  · rw [hfew] at hFw
    simp only [Bool.and_eq_true, decide_eq_true_eq] at hfew
    obtain ⟨hl1, hs1⟩ := hfew
    by_cases hbig : 100 < n2
    · have hbI : decide ((100 : Int) < (n2 : Int)) = true := decide_eq_true (by omega)
      go_enter Try.func4, Try.ntmps4
      go_wp2_with fail
      refine (hFw.out _).mono ?_
      rintro e w5 ⟨rfl, hc5⟩
      have hC5 := hid (hw0.out.trans hc5)
      clear hc5 x0 x1
      go_wp2_with fail
      refine (alive12 _).mono ?_
      rintro e w6 ⟨rfl, hc6⟩
      have hC6 := hid (hC5.out.trans hc6)
      go_wp2
      go_ret
      exact ⟨rfl, hC6.out⟩
    have hbI : decide ((100 : Int) < (n2 : Int)) = false := decide_eq_false (by omega)
    have hRa := hid (fun (w' : World) (hc : Chg Nothing w w') => splitRareM _ _ A l c xs K s A2 n2 c2 ks w' (hHH.out w' hc) hlh.out (hH2.out w' hc) hlh2.out (by omega) (by omega))
    have hRr := hid (fun (w' : World) (hc : Chg Nothing w w') => refRareM _ _ A l c xs K s A2 n2 c2 ks w' (hHH.out w' hc) hlh.out (hH2.out w' hc) hlh2.out (by omega))
    have hKi := hid (fun (w' : World) (hc : Chg Nothing w w') => leafKinds_any _ A l c xs K w' (hHH.out w' hc) hlh.out (by omega))
    have hRk := hid (fun (w' : World) (hc : Chg Nothing w w') (F2 : Nat → Prop) (A9 : Option Addr) (c9 : Nat) (h9 : ClsRow F2 w' A9 (kindsL xs).length c9 (kindsL xs)) => splitRareM _ F2 A l c xs K s A9 (kindsL xs).length c9 (kindsL xs) w' (hHH.out w' hc) hlh.out h9 rfl (by omega) (by omega))
    have hCo := hid (fun (w' : World) (hc : Chg Nothing w w') => refCounts8_any _ A l c xs K s w' (hHH.out w' hc) hlh.out (by omega))
    have hBd := hid (fun (w' : World) (hc : Chg Nothing w w') => leafBound_any _ A l c xs K w' (hHH.out w' hc) hlh.out (by omega))
    have hcl := countsR_len xs K s
    have hge := hid (fun i h => rareR_get xs K s i h)
    have hvb := hid (fun i h => countsR_bound xs K s i h)
    have hNb : sumsN xs K s.size ≤ 301 := by unfold sumsN; split <;> omega
    have hBb := hid (boundN_bound xs)
    generalize sumsN xs K s.size = N at *
    generalize rareR xs K ks s = L1 at *
    generalize rareR xs K (kindsL xs) s = LA at *
    generalize countsR xs K s = LC at *
    generalize kindsL xs = kl at *
    go_enter Try.func4, Try.ntmps4
    go_wp2_with fail
    refine (hFw.out _).mono ?_
    rintro e w5 ⟨rfl, hc5⟩
    have hC5 := hid (hw0.out.trans hc5)
    have hL5 := hid (hLh.out.chg hc5 id)
    clear hc5 x0 x1
    have hS := hid (fun (w' : World) (hc : Chg Nothing w5 w') => (⟨(hL5.out.chg hc id).cell 0 rfl, (hL5.out.chg hc id).cell 1 rfl⟩ : w'.cell? ⟨w.heap.size, 0, none⟩ = some (.slice A l c) ∧ w'.cell? ⟨w.heap.size, 1, none⟩ = some (.int .i64 K)))
    have hcur := hid ((Chg.refl Nothing w5).drew)
    go_wp2_with fail
    go_region_held3 (fun w' => w'.cell? ⟨w.heap.size, 0, none⟩ = some (.slice A l c) ∧ w'.cell? ⟨w.heap.size, 1, none⟩ = some (.int .i64 K))
      (exact hS.out _ hcur.out)
      (first
      | (go_at_call 16; with_reducible refine (hRa.out _ (hC5.out.trans hcur.out)).mono ?_; rintro e wR ⟨gR, rfl, hER, hcR⟩; replace hcur := hid (hcur.out.trans hcR); replace hER := hid hER; try replace hEQ := hid (hEQ.out.chg hcR (fun _ _ _ h => h)))
      | (go_at_call 17; with_reducible refine (hRr.out _ (hC5.out.trans hcur.out)).mono ?_; rintro e wQ ⟨AQ, cQ, rfl, hEQ, hcQ⟩; replace hcur := hid (hcur.out.trans hcQ); replace hEQ := hid hEQ; try replace hER := hid (hER.out.chg hcQ (fun _ _ _ h => h)))
      | (go_at_call 15; with_reducible refine (same_intsM hER.out hEQ.out).mono ?_; rintro e wP ⟨rfl, hcP⟩; replace hcur := hid (hcur.out.trans hcP); replace hcP := hid hcP))
    all_goals
      have hC6 := hid (hC5.out.trans hcur.out)
      have hL6 := hid (hL5.out.chg hcur.out id)
      clear hER hEQ hcP hS hcur
      have hS := hid (fun (w' : World) (hc : Chg Nothing wP w') => (⟨(hL6.out.chg hc id).cell 0 rfl, (hL6.out.chg hc id).cell 1 rfl⟩ : w'.cell? ⟨w.heap.size, 0, none⟩ = some (.slice A l c) ∧ w'.cell? ⟨w.heap.size, 1, none⟩ = some (.int .i64 K)))
      have hcur := hid ((Chg.refl Nothing wP).drew)
      go_wp2_with fail
      go_region_held3 (fun w' => w'.cell? ⟨w.heap.size, 0, none⟩ = some (.slice A l c) ∧ w'.cell? ⟨w.heap.size, 1, none⟩ = some (.int .i64 K))
        (exact hS.out _ hcur.out)
        (first
        | (go_at_call 14; with_reducible refine (hKi.out _ (hC6.out.trans hcur.out)).mono ?_; rintro e wK ⟨AK, cK, rfl, hOK, hcK⟩; replace hcur := hid (hcur.out.trans hcK); replace hOK := hid hOK)
        | (go_at_call 16; with_reducible refine (hRk.out _ (hC6.out.trans hcur.out) _ _ _ (RowAt.of_own hOK.out)).mono ?_; rintro e wR2 ⟨gA, rfl, hEA, hcR2⟩; replace hcur := hid (hcur.out.trans hcR2); replace hEA := hid hEA))
      all_goals
        have hC7 := hid (hC6.out.trans hcur.out)
        have hL7 := hid (hL6.out.chg hcur.out id)
        have x0 := hL7.out.cell 0 (v := .slice A l c) rfl
        have x1 := hL7.out.cell 1 (v := .int .i64 K) rfl
        clear hS hcur hOK
        go_wp2_with fail
        refine (hCo.out _ hC7.out).mono ?_
        rintro e w8 ⟨⟨A8, c8, rfl, hO8⟩, hc8⟩
        rw [hcl] at hO8 ⊢
        have hE8 := hid (hO8.els.mono (G := fun _ => True) (fun _ _ _ => trivial))
        have hA8 := hid (hEA.out.chg hc8 (fun _ _ _ h => h))
        have hC8 := hid (hC7.out.trans hc8)
        have hL8 := hid (hL7.out.chg hc8 id)
        have hNN : ((N : Int) == (N : Int)) = true := beq_iff_eq.2 rfl
        clear hO8 hc8 x0 x1 hEA
        go_wp2_with fail
        go_loopw [45] (fun iv wr => RwInv12 w8 N iv wr) (fun iv _ => N - (intOf iv).toNat)
        case atStart => exact ⟨0, Nat.zero_le _, rfl, Chg.refl _ _⟩
        case round =>
          obtain ⟨k, hk, rfl, hch⟩ := hrel
          rcases Nat.lt_or_ge k N with hkn | hkn
          · have hk0 : (0 : Int) ≤ (k : Int) := by omega
            have hkI : (k : Int) < (N : Int) := by omega
            obtain ⟨ga, oa, ea, -, hga, a0⟩ := (hA8.out.chg hch (fun _ _ _ h => h)).at_ hkn
            injection ea with ea
            injection ea with ea1 ea2 ea3
            subst ea1 ea2
            obtain ⟨gc, oc, rfl, -, hgc, b0⟩ := (hE8.out.chg hch (fun _ _ _ h => h)).at_ hkn
            have hgk := hge.out k hkn
            obtain ⟨va, hva⟩ : ∃ va, va = LA.getD k 0 := ⟨_, rfl⟩
            obtain ⟨vc, hvc⟩ : ∃ vc, vc = LC.getD k 0 := ⟨_, rfl⟩
            rw [← hva] at a0 hgk
            rw [← hvc] at b0 hgk
            have hvk := hvb.out k hkn
            rw [← hvc] at hvk
            have hBk := hBb.out
            obtain ⟨B, hB⟩ : ∃ B, B = boundN xs := ⟨_, rfl⟩
            have hBd2 := hid (fun (w' : World) (hc : Chg Nothing w w') => hBd.out w' hc)
            rw [← hB] at hBd2 hgk hBk
            have hlx := hlh.out
            have hwv : IntKind.i64.wrap (B - vc) = va := by rw [IntKind.wrap_i64]; omega
            have hvv : (va == va) = true := beq_iff_eq.2 rfl
            have hC9 := hid (hC8.out.trans hch)
            have hL9 := hid (hL8.out.chg hch id)
            have hS := hid (fun (w' : World) (hc : Chg Nothing wr w') => (⟨(hL9.out.chg hc id).cell 0 rfl, (hL9.out.chg hc id).cell 1 rfl, (hc.cells.1 _ _ hga).trans a0, (hc.cells.1 _ _ hgc).trans b0⟩ : w'.cell? ⟨w.heap.size, 0, none⟩ = some (.slice A l c) ∧ w'.cell? ⟨w.heap.size, 1, none⟩ = some (.int .i64 K) ∧ w'.cell? ⟨gA, 0 + k, none⟩ = some (.int .i64 va) ∧ w'.cell? ⟨gc, oc + k, none⟩ = some (.int .i64 vc)))
            simp only [Nat.zero_add] at hS
            have hcur := hid ((Chg.refl Nothing wr).drew)
            replace hB := hid hB
            replace hva := hid hva
            replace hvc := hid hvc
            replace hgk := hid hgk
            clear a0 b0 hlx hBk hvk
            go_wp2_with fail
            go_region_held3 (fun w' => w'.cell? ⟨w.heap.size, 0, none⟩ = some (.slice A l c) ∧ w'.cell? ⟨w.heap.size, 1, none⟩ = some (.int .i64 K) ∧ w'.cell? ⟨gA, k, none⟩ = some (.int .i64 va) ∧ w'.cell? ⟨gc, oc + k, none⟩ = some (.int .i64 vc))
              (exact hS.out _ hcur.out)
              (first | (go_at_call 19; with_reducible refine (hBd2.out _ (hC9.out.trans hcur.out)).mono ?_; rintro e wB ⟨rfl, hcB⟩; replace hcur := hid (hcur.out.trans hcB); replace hcB := hid hcB))
            all_goals
              have hC10 := hid (hch.trans hcur.out)
              clear hS hcur hcB
              go_wp2
              go_roundw
              case rel => exact ⟨k + 1, hkn, by go_num, hC10.out⟩
              case measure => simp [intOf]; omega
          · obtain rfl : N = k := by omega
            have hd : decide ((N : Int) < (N : Int)) = false := decide_eq_false (by omega)
            have hC9 := hid (hC8.out.trans hch)
            clear hch
            go_wp2_with fail
            refine (alive12 _).mono ?_
            rintro e w9 ⟨rfl, hc9⟩
            have hC10 := hid (hC9.out.trans hc9)
            go_wp2
            go_ret
            exact ⟨rfl, hC10.out⟩
  · have hfb : (decide (l ≤ 100) && decide (s.size ≤ 300)) = false := by simpa using hfew
    rw [hfb] at hFw
    clear hfew
    go_enter Try.func4, Try.ntmps4
    go_wp2_with fail
    refine (hFw.out _).mono ?_
    rintro e w5 ⟨rfl, hc5⟩
    have hC5 := hid (hw0.out.trans hc5)
    clear hc5 x0 x1
    go_wp2_with fail
    refine (alive12 _).mono ?_
    rintro e w6 ⟨rfl, hc6⟩
    have hC6 := hid (hC5.out.trans hc6)
    go_wp2
    go_ret
    exact ⟨rfl, hC6.out⟩
end Go.Proofs.Ytlpgbnbklddfaaa
