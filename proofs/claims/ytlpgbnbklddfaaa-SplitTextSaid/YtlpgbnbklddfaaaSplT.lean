/- Layer 12: the walk of SplitText. -/
import Derived.Test.YtlpgbnbklddfaaaSplR
namespace Go.Proofs.Ytlpgbnbklddfaaa
open Go.RowKit
set_option linter.unusedVariables false
theorem elemIt : Try.prog.underlying 34 = some (.slice (Try.prog.elem 34)) := by kernel_rfl
theorem sizeIt (w : World) : (sizeOf (Try.prog.elem 34)).run Try.prog w = .ok 1 w := by kernel_rfl
/-- A piece of a row of ints. -/
theorem els_cut {F : Nat → Prop} {w : World} {A : Option Addr} {n c k m : Nat} {vs us ws : List Int} (h : IntsAt F w A n c (vs ++ us ++ ws)) (hk : vs.length = k) (hm : us.length = m) : IntsAt F w (pieceA A k c 1) m (c - k) us := by
  obtain ⟨h0, h1, h2, h3, h4⟩ := h
  have hl : k + m ≤ n := by have := h3; simp only [List.length_append] at this; omega
  refine ⟨fun e => ?_, by omega, by omega, hm, fun hp => ?_⟩
  · unfold pieceA at e
    by_cases hc : c = k
    · omega
    · rw [if_neg hc] at e
      cases A with
      | none => have := h0 rfl; omega
      | some a => simp at e
  · obtain ⟨g, o, e, hF, hlt, hc⟩ := h4 (by omega)
    refine ⟨g, o + k, ?_, hF, hlt, fun j hj => ?_⟩
    · unfold pieceA
      rw [if_neg (by omega), e]
      simp [add_plain]
    · have := hc (k + j) (by omega)
      rw [← Nat.add_assoc] at this
      rw [this]
      congr 2
      simp only [List.getD_eq_getElem?_getD]
      rw [List.append_assoc, List.getElem?_append_right (by omega), hk, Nat.add_sub_cancel_left, List.getElem?_append_left (by omega)]
theorem text_left (xs : List Cls) (s t : ByteArray) : ∃ ws, countsL xs (s ++ t) = [] ++ countsL xs s ++ ws := by
  refine ⟨(countsL xs (s ++ t)).drop (countsL xs s).length, ?_⟩
  have h : (countsL xs (s ++ t)).take (countsL xs s).length = countsL xs s := by
    unfold countsL
    refine List.ext_getElem (by simp [ByteArray.size_append]; omega) fun i h1 h2 => ?_
    have h3 : i < s.size + 1 - xs.length := by simpa using h2
    simp only [List.getElem_take, List.getElem_map, List.getElem_range]
    exact missN_left xs s t i (by omega)
  rw [List.nil_append]
  have h2 := List.take_append_drop (countsL xs s).length (countsL xs (s ++ t))
  rw [h] at h2
  exact h2.symm
theorem text_right (xs : List Cls) (s t : ByteArray) : ∃ vs, countsL xs (s ++ t) = vs ++ countsL xs t ++ [] := by
  have hl : (countsL xs (s ++ t)).length = s.size + t.size + 1 - xs.length := by unfold countsL; simp [ByteArray.size_append]
  have hl2 : (countsL xs t).length = t.size + 1 - xs.length := by unfold countsL; simp
  refine ⟨(countsL xs (s ++ t)).take ((countsL xs (s ++ t)).length - (countsL xs t).length), ?_⟩
  have h : (countsL xs (s ++ t)).drop ((countsL xs (s ++ t)).length - (countsL xs t).length) = countsL xs t := by
    refine List.ext_getElem (by rw [List.length_drop, hl, hl2]; omega) fun i h1 h2 => ?_
    have h3 : i < t.size + 1 - xs.length := by rw [hl2] at h2; exact h2
    have g1 : ∀ (u : ByteArray) (q : Nat) (h : q < (countsL xs u).length), (countsL xs u)[q] = missN xs u q := fun u q h => by
      have h4 : (countsL xs u)[q]? = some (missN xs u q) := by
        have h5 : q < u.size + 1 - xs.length := by unfold countsL at h; simpa using h
        unfold countsL
        rw [List.getElem?_map, List.getElem?_range h5]
        rfl
      exact (List.getElem?_eq_some_iff.1 h4).2
    rw [List.getElem_drop, g1, g1, ← missN_right xs s t i]
    congr 1
    rw [hl, hl2]
    omega
  rw [List.append_nil]
  have h2 := List.take_append_drop ((countsL xs (s ++ t)).length - (countsL xs t).length) (countsL xs (s ++ t))
  rw [h] at h2
  exact h2.symm
theorem text_both {xs : List Cls} {K : Int} {s t : ByteArray} {size least : Int} (h1 : e12 xs K s.size size least = 0) (h2 : e12 xs K t.size size least = 0) (h3 : e12 xs K (s ++ t).size size least = 0) :
    ∃ vs ws, y12 xs K (s ++ t) size least = [] ++ y12 xs K s size least ++ ws ∧ y12 xs K (s ++ t) size least = vs ++ y12 xs K t size least ++ [] := by
  obtain ⟨ws, h4⟩ := text_left xs s t
  obtain ⟨vs, h5⟩ := text_right xs s t
  unfold y12
  rw [if_pos h1, if_pos h2, if_pos h3]
  exact ⟨vs, ws, h4, h5⟩
set_option maxHeartbeats 16000000 in
set_option maxRecDepth 100000 in
theorem SplitText_walk (A : Option Addr) (l c : Nat) (xs : List Cls) (K : Int) (s t : ByteArray) (size least : Int) (w : World) (H : LfRow w A l c xs) (hl : xs.length = l) (hf : l * 32 ≤ 140737488351232) (hK : -9223372036854775808 ≤ K ∧ K ≤ 9223372036854775807) (hs : s.size ≤ 140737488351232 ∧ t.size ≤ 140737488351232) (hz : (-9223372036854775808 ≤ size ∧ size ≤ 9223372036854775807) ∧ -9223372036854775808 ≤ least ∧ least ≤ 9223372036854775807) :
    Calls Try.prog 8 #[.agg #[.slice A l c, .int .i64 K], .agg #[.string s, .string t], .agg #[.int .i64 size, .int .i64 least]] w fun e w' => e = .returned (.bool true) ∧ Chg Nothing w w' := by
  have hst : (s ++ t).size = s.size + t.size := ByteArray.size_append
  have hFw := hid (fun w => few12_any A l c K (s ++ t) w (by omega) (by omega))
  have hw0 := hid ((((Chg.refl Nothing w).alloc (.cells #[.slice A l c, .int .i64 K] 24)).alloc (.cells #[.string s, .string t] 45)).alloc (.cells #[.int .i64 size, .int .i64 least] 40))
  have hL := ((Blk.new w #[.slice A l c, .int .i64 K] 24).alloc (.cells #[.string s, .string t] 45)).alloc (.cells #[.int .i64 size, .int .i64 least] 40)
  have hZ := (Blk.new (w.alloc (.cells #[.slice A l c, .int .i64 K] 24)) #[.string s, .string t] 45).alloc (.cells #[.int .i64 size, .int .i64 least] 40)
  have hU := Blk.new ((w.alloc (.cells #[.slice A l c, .int .i64 K] 24)).alloc (.cells #[.string s, .string t] 45)) #[.int .i64 size, .int .i64 least] 40
  simp only [World.size_alloc] at hZ hU
  have hHH := hid (fun (w' : World) (hc : Chg Nothing w w') => H.calm hc)
  have hlh := hid hl
  have hle := H.le
  have hmx := H.max
  have x0 := hL.cell 0 (v := .slice A l c) rfl
  have x1 := hL.cell 1 (v := .int .i64 K) rfl
  have hlx := hL.lt
  have z0 := hZ.cell 0 (v := .string s) rfl
  have z1 := hZ.cell 1 (v := .string t) rfl
  have u0 := hU.cell 0 (v := .int .i64 size) rfl
  have u1 := hU.cell 1 (v := .int .i64 least) rfl
  have hlu := hU.lt
  have hcat : ¬ (9223372036854775807 < s.size + t.size) := by omega
  clear H hl hL hU hZ
  by_cases hfew : (decide (l ≤ 100) && decide ((s ++ t).size ≤ 300)) = true
  · rw [hfew] at hFw
    simp only [Bool.and_eq_true, decide_eq_true_eq] at hfew
    obtain ⟨hl1, hs1⟩ := hfew
    have hRt := hid (fun (w' : World) (hc : Chg Nothing w w') => refRight7_any _ A l c xs K w' (hHH.out w' hc) hlh.out)
    have hP1 := hid (fun (w' : World) (hc : Chg Nothing w w') => splitCounts_any _ A l c xs K s size least w' (hHH.out w' hc) hlh.out (by omega) (by omega))
    have hP2 := hid (fun (w' : World) (hc : Chg Nothing w w') => splitCounts_any _ A l c xs K t size least w' (hHH.out w' hc) hlh.out (by omega) (by omega))
    have hP3 := hid (fun (w' : World) (hc : Chg Nothing w w') => splitCounts_any _ A l c xs K (s ++ t) size least w' (hHH.out w' hc) hlh.out (by omega) (by omega))
    have hM := hid (fun h1 h2 h3 => text_both (xs := xs) (K := K) (s := s) (t := t) (size := size) (least := least) h1 h2 h3)
    generalize y12 xs K s size least = ys at *
    generalize y12 xs K t size least = ys2 at *
    generalize y12 xs K (s ++ t) size least = ys3 at *
    generalize n12 xs K s size least = num at *
    generalize n12 xs K t size least = num2 at *
    generalize n12 xs K (s ++ t) size least = num3 at *
    generalize e12 xs K s.size size least = E at *
    generalize e12 xs K t.size size least = E2 at *
    generalize e12 xs K (s ++ t).size size least = E3 at *
    clear hst hs1
    cases hr : rightB xs K with
    | false =>
      rw [hr] at hRt
      clear hP1 hP2 hP3 hM
      go_enter Try.func8, Try.ntmps8
      go_wp2_with fail
      go_quiet (fail)
      go_wp2_with fail
      refine (hFw.out _).mono ?_
      rintro e w5 ⟨rfl, hc5⟩
      have hC5 := hid ((hw0.out.drewN nq).trans hc5)
      have y0 := (hc5.cells.1 _ _ hlx).trans x0
      have y1 := (hc5.cells.1 _ _ hlx).trans x1
      clear hc5 x0 x1 hlx u0 u1 z0 z1
      go_wp2_with fail
      refine (hRt.out _ hC5.out).mono ?_
      rintro e w6 ⟨rfl, hc6⟩
      have hC6 := hid (hC5.out.trans hc6)
      go_wp2_with fail
      refine (alive12 _).mono ?_
      rintro e w7 ⟨rfl, hc7⟩
      have hC7 := hid (hC6.out.trans hc7)
      go_wp2
      go_ret
      exact ⟨rfl, hC7.out⟩
    | true =>
      rw [hr] at hRt
      go_enter Try.func8, Try.ntmps8
      go_wp2_with fail
      go_quiet (fail)
      go_wp2_with fail
      refine (hFw.out _).mono ?_
      rintro e w5 ⟨rfl, hc5⟩
      have hC5 := hid ((hw0.out.drewN nq).trans hc5)
      have y0 := (hc5.cells.1 _ _ hlx).trans x0
      have y1 := (hc5.cells.1 _ _ hlx).trans x1
      have hly := Nat.lt_of_lt_of_le hlx hc5.size
      have v0 := (hc5.cells.1 _ _ hlu).trans u0
      have v1 := (hc5.cells.1 _ _ hlu).trans u1
      have hlv := Nat.lt_of_lt_of_le hlu hc5.size
      clear x0 x1 hlx u0 u1 hlu z0 z1
      clear hc5
      go_wp2_with fail
      refine (hRt.out _ hC5.out).mono ?_
      rintro e w5b ⟨rfl, hc5⟩
      replace hC5 := hid (hC5.out.trans hc5)
      replace y0 := (hc5.cells.1 _ _ hly).trans y0
      replace y1 := (hc5.cells.1 _ _ hly).trans y1
      replace hly := Nat.lt_of_lt_of_le hly hc5.size
      replace v0 := (hc5.cells.1 _ _ hlv).trans v0
      replace v1 := (hc5.cells.1 _ _ hlv).trans v1
      replace hlv := Nat.lt_of_lt_of_le hlv hc5.size
      clear hc5
      go_wp2_with fail
      refine (hP1.out _ hC5.out).mono ?_
      rintro e w6 ⟨⟨A6, c6, rfl, hO6⟩, hc6⟩
      replace hO6 := hid (hO6.els.mono (G := fun _ => True) (fun _ _ _ => trivial))
      have hC6 := hid (hC5.out.trans hc6)
      have x0 := (hc6.cells.1 _ _ hly).trans y0
      have x1 := (hc6.cells.1 _ _ hly).trans y1
      have hlx := Nat.lt_of_lt_of_le hly hc6.size
      have u0 := (hc6.cells.1 _ _ hlv).trans v0
      have u1 := (hc6.cells.1 _ _ hlv).trans v1
      have hlu := Nat.lt_of_lt_of_le hlv hc6.size
      clear y0 y1 hly v0 v1 hlv
      clear hc6
      go_wp2_with fail
      refine (hP2.out _ hC6.out).mono ?_
      rintro e w7 ⟨⟨A7, c7, rfl, hO7⟩, hc7⟩
      replace hO7 := hid (hO7.els.mono (G := fun _ => True) (fun _ _ _ => trivial))
      have hO67 := hid (hO6.out.chg hc7 (fun _ _ _ h => h))
      have hC7 := hid (hC6.out.trans hc7)
      have y0 := (hc7.cells.1 _ _ hlx).trans x0
      have y1 := (hc7.cells.1 _ _ hlx).trans x1
      have hly := Nat.lt_of_lt_of_le hlx hc7.size
      have v0 := (hc7.cells.1 _ _ hlu).trans u0
      have v1 := (hc7.cells.1 _ _ hlu).trans u1
      have hlv := Nat.lt_of_lt_of_le hlu hc7.size
      clear x0 x1 hlx u0 u1 hlu
      clear hc7 hO6
      go_wp2_with fail
      refine (hP3.out _ hC7.out).mono ?_
      rintro e w8 ⟨⟨A8, c8, rfl, hO8⟩, hc8⟩
      replace hO8 := hid (hO8.els.mono (G := fun _ => True) (fun _ _ _ => trivial))
      have hO68 := hid (hO67.out.chg hc8 (fun _ _ _ h => h))
      have hO78 := hid (hO7.out.chg hc8 (fun _ _ _ h => h))
      have hC8 := hid (hC7.out.trans hc8)
      clear hc8 hO67 hO7 y0 y1 v0 v1 hly hlv
      by_cases hE : E = 0
      · by_cases hE2 : E2 = 0
        · by_cases hE3 : E3 = 0
          · obtain ⟨vs, ws, h1, h2⟩ := hM.out hE hE2 hE3
            have hle1 : ys.length ≤ ys3.length := by rw [h1]; simp
            have hle2 : ys2.length ≤ ys3.length := by rw [h2]; simp
            have hvl : vs.length = ys3.length - ys2.length := by rw [h2]; simp
            have hc83 := hO8.out.2.1
            have hc8m := hO8.out.2.2.1
            have hCa := hid (fun (w' : World) (hI : IntsAt (fun _ => True) w' A8 ys3.length c8 ys3) => (show IntsAt (fun _ => True) w' (pieceA A8 0 c8 1) ys.length c8 ys from els_cut (vs := []) (ws := ws) (by rw [← h1]; exact hI) rfl rfl))
            have hCb := hid (fun (w' : World) (hI : IntsAt (fun _ => True) w' A8 ys3.length c8 ys3) => (show IntsAt (fun _ => True) w' (pieceA A8 (ys3.length - ys2.length) c8 1) (ys3.length - (ys3.length - ys2.length)) (c8 - (ys3.length - ys2.length)) ys2 from by
              rw [show ys3.length - (ys3.length - ys2.length) = ys2.length from by omega]
              exact els_cut (vs := vs) (ws := []) (by rw [← h2]; exact hI) hvl rfl))
            clear h1 h2 hvl vs ws
            subst hE hE2 hE3
            generalize ys.length = N1 at *
            generalize ys2.length = N2 at *
            generalize ys3.length = N3 at *
            have hd1 : decide ((N1 : Int) ≤ (N3 : Int)) = true := decide_eq_true (by omega)
            have hd2 : decide ((N2 : Int) ≤ (N3 : Int)) = true := decide_eq_true (by omega)
            have hr1 := run_upto elemIt sizeIt A8 N3 c8 (N1 : Int) N1 rfl (by omega)
            have hwr : IntKind.i64.wrap ((N3 : Int) - (N2 : Int)) = ((N3 - N2 : Nat) : Int) := by rw [IntKind.wrap_i64]; omega
            have hr2 := run_from elemIt sizeIt A8 N3 c8 ((N3 - N2 : Nat) : Int) (N3 - N2) rfl (by omega)
            obtain ⟨D, hD⟩ : ∃ D, D = N3 - N2 := ⟨_, rfl⟩
            rw [← hD] at hwr hr2 hCb
            replace hD := hid hD
            clear hM hP1 hP2 hP3
            go_wp2_with fail
            refine (alive12 _).mono ?_
            rintro e w9 ⟨rfl, hc9⟩
            have hO69 := hid (hO68.out.chg hc9 (fun _ _ _ h => h))
            have hO79 := hid (hO78.out.chg hc9 (fun _ _ _ h => h))
            have hO89 := hid (hO8.out.chg hc9 (fun _ _ _ h => h))
            have hC9 := hid (hC8.out.trans hc9)
            clear hc9 hO68 hO78 hO8
            go_wp2_with fail
            refine (same_intsM (hCa.out _ hO89.out) hO69.out).mono ?_
            rintro e w10 ⟨rfl, hc10⟩
            have hO710 := hid (hO79.out.chg hc10 (fun _ _ _ h => h))
            have hO810 := hid (hO89.out.chg hc10 (fun _ _ _ h => h))
            have hC10 := hid (hC9.out.trans hc10)
            clear hc10 hO69 hO79 hO89
            go_wp2_with fail
            refine (same_intsM (hCb.out _ hO810.out) hO710.out).mono ?_
            rintro e w11 ⟨rfl, hc11⟩
            have hC11 := hid (hC10.out.trans hc11)
            clear hc11
            go_wp2
            go_ret
            exact ⟨rfl, hC11.out⟩
          · have hb3 : (E3 == 0) = false := beq_eq_false_iff_ne.2 hE3
            subst hE hE2
            clear hM hP1 hP2 hP3
            go_wp2_with fail
            refine (alive12 _).mono ?_
            rintro e w9 ⟨rfl, hc9⟩
            have hC9 := hid (hC8.out.trans hc9)
            go_wp2
            go_ret
            exact ⟨rfl, hC9.out⟩
        · have hb2 : (E2 == 0) = false := beq_eq_false_iff_ne.2 hE2
          subst hE
          clear hM hP1 hP2 hP3
          go_wp2_with fail
          refine (alive12 _).mono ?_
          rintro e w9 ⟨rfl, hc9⟩
          have hC9 := hid (hC8.out.trans hc9)
          go_wp2
          go_ret
          exact ⟨rfl, hC9.out⟩
      · have hb1 : (E == 0) = false := beq_eq_false_iff_ne.2 hE
        clear hM hP1 hP2 hP3
        go_wp2_with fail
        refine (alive12 _).mono ?_
        rintro e w9 ⟨rfl, hc9⟩
        have hC9 := hid (hC8.out.trans hc9)
        go_wp2
        go_ret
        exact ⟨rfl, hC9.out⟩
  · have hfb : (decide (l ≤ 100) && decide ((s ++ t).size ≤ 300)) = false := by simpa using hfew
    rw [hfb] at hFw
    clear hfew
    go_enter Try.func8, Try.ntmps8
    go_wp2_with fail
    go_quiet (fail)
    go_wp2_with fail
    refine (hFw.out _).mono ?_
    rintro e w5 ⟨rfl, hc5⟩
    have hC5 := hid ((hw0.out.drewN nq).trans hc5)
    clear hc5 x0 x1 hlx
    go_wp2_with fail
    refine (alive12 _).mono ?_
    rintro e w6 ⟨rfl, hc6⟩
    have hC6 := hid (hC5.out.trans hc6)
    go_wp2
    go_ret
    exact ⟨rfl, hC6.out⟩
end Go.Proofs.Ytlpgbnbklddfaaa
